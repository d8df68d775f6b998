/- The document's Over: walked. -/
import Derived.Test.YtcmndnglmpkpdaaDoorRefApply
import Derived.Test.YtcmndnglmpkpdaaDoorLevCoversP
namespace Go.Proofs.YtcmndnglmpkpdaaDoor.Tithe
open Go.RowKit Go.Sort Go.Shelf
set_option linter.unusedVariables false
set_option linter.unusedSimpArgs false
set_option maxRecDepth 100000
theorem Order_bel (a b : ByteArray) (ha : a.size ≤ maxLen) (hb : b.size ≤ maxLen) (w : World) : Calls Tryd.prog 50 #[.string a, .string b] w fun e w' => e = .returned (.int .i64 (cmpB a b)) ∧ Below w.heap.size w w' :=
  (Order_any a b ha hb w).mono fun e w' ⟨h, n, hn⟩ => ⟨h, by rw [hn]; exact below_drewN (Below.refl _ _) n⟩
def covS (s g : ByteArray) (r : Mr) : Bool := decide (cmpB r.1.a.u g ≤ 0) && decide (cmpB s r.1.b.u ≤ 0)
theorem covS_R {s g : ByteArray} (h : cmpB s g ≤ 0) (l : List Mr) : l.filter (covS s g) = l.filter (covR s g) := by
  apply List.filter_congr
  intro r hr
  unfold covS covR
  rw [decide_eq_true h, Bool.true_and]
theorem over_none {l : Nat → List Mr} {lv : Int} {s g : ByteArray} (h : lv < 0 ∨ 3 < lv ∨ 0 < cmpB s g) : ((tabs l 4).filter (overB lv s g)).map (·.2.1) = [] := by
  rw [List.map_eq_nil_iff, List.filter_eq_nil_iff]
  intro p hp hq
  have h4 := (tabs_mem hp).1
  unfold overB at hq
  simp only [Bool.and_eq_true, decide_eq_true_eq] at hq
  omega
theorem over_some {l : Nat → List Mr} {n : Nat} {s g : ByteArray} (hn : n < 4) (h : cmpB s g ≤ 0) : ((l n).filter (covS s g)).map (·.1) = ((tabs l 4).filter (overB (n : Int) s g)).map (·.2.1) := by
  rw [over_level l hn, covS_R h, List.map_map]; rfl
theorem take_flt {α : Type} {l : List α} {p : α → Bool} {k : Nat} {x : α} (h : l[k]? = some x) : (l.take (k + 1)).filter p = (l.take k).filter p ++ if p x = true then [x] else [] := by
  rw [List.take_add_one, h, List.filter_append]
  show _ ++ [x].filter p = _
  rw [List.filter_cons, List.filter_nil]
def RoOut (X : Vn) (lv : Int) (s g : ByteArray) (w : World) (e : Ending) (w' : World) : Prop := ∃ a c rows, e = .returned (.slice a rows.length c) ∧ IsMr w' (.slice a rows.length c) rows ∧ rows.map (·.1) = ((tabs X.l 4).filter (overB lv s g)).map (·.2.1) ∧ Below w.heap.size w w'
theorem roOut_none {X : Vn} {lv : Int} {s g : ByteArray} {w w' : World} (h : lv < 0 ∨ 3 < lv ∨ 0 < cmpB s g) (hb : Below w.heap.size w w') : RoOut X lv s g w (.returned (.slice none 0 0)) w' :=
  ⟨none, 0, [], rfl, (OwnMs.nil w' 0).isMr, by rw [over_none h]; rfl, hb⟩
attribute [local go_sem] Oper.semAt_some
set_option maxHeartbeats 3200000 in
theorem rover_any (X : Vn) (xb : Nat) (lv : Int) (s g : ByteArray) (w : World) (hxb : w.heap[xb]? = some (.cells X.cells 68 (0, 0))) (h : IsVn w X) (hs : s.size ≤ maxLen) (hg : g.size ≤ maxLen) (hl : ∀ n, n < 4 → (X.l n).length ≤ 100000) (hgd : ∀ n, n < 4 → ∀ r ∈ X.l n, gdM r.1) :
    Calls Tryd.prog 41 #[.pointer (some ⟨xb, 0, none⟩), .int .i64 lv, .string s, .string g] w fun e w' => Hid (RoOut X lv s g w e w') := by
  have H := Lib.hid h
  have Hxb := Lib.hid hxb
  have Hs := Lib.hid hs
  have Hg := Lib.hid hg
  have Hl := Lib.hid hl
  have Hgd := Lib.hid hgd
  clear h hxb hs hg hl hgd
  by_cases h0 : lv < 0
  · have HN := Lib.hid (fun w' hb => roOut_none (X := X) (lv := lv) (s := s) (g := g) (w := w) (w' := w') (.inl h0) hb)
    go_enter Tryd.func41, Tryd.ntmps41
    go_wp2_with fail
    go_ret
    exact Lib.hid (HN.out _ (Below.refl _ _))
  · by_cases h3 : 3 < lv
    · have HN := Lib.hid (fun w' hb => roOut_none (X := X) (lv := lv) (s := s) (g := g) (w := w) (w' := w') (.inr (.inl h3)) hb)
      go_enter Tryd.func41, Tryd.ntmps41
      go_wp2_with fail
      go_ret
      exact Lib.hid (HN.out _ (Below.refl _ _))
    · obtain ⟨n, hn⟩ : ∃ n : Nat, lv = n := ⟨lv.toNat, by omega⟩
      subst hn
      have hn4 : n < 4 := by omega
      have hni : (n : Int) < 4 := by omega
      have HO := Lib.hid (Order_bel s g Hs.out Hg.out w)
      by_cases hc : 0 < cmpB s g
      · have HN := Lib.hid (fun w' hb => roOut_none (X := X) (lv := n) (s := s) (g := g) (w := w) (w' := w') (.inr (.inr hc)) hb)
        generalize cmpB s g = C at *
        go_enter Tryd.func41, Tryd.ntmps41
        go_wp2_with fail
        refine HO.out.mono ?_
        rintro e w1 ⟨rfl, hb⟩
        have Hb := Lib.hid hb
        clear hb
        go_wp2_with fail
        go_ret
        exact Lib.hid (HN.out _ Hb.out)
      · have HN := Lib.hid (over_some (l := X.l) (n := n) (s := s) (g := g) hn4 (by omega))
        generalize cmpB s g = C at *
        go_enter Tryd.func41, Tryd.ntmps41
        go_wp2_with fail
        refine HO.out.mono ?_
        rintro e w1 ⟨rfl, hb⟩
        have Hb := Lib.hid hb
        obtain ⟨a, c, hv, hc1, hm1, hx1⟩ := (H.out n hn4).1
        have Hx1 := Lib.hid hx1
        have Hrr := Lib.hid (H.out n hn4).2
        obtain ⟨m, hm⟩ : ∃ m, m = (X.l n).length := ⟨_, rfl⟩
        rw [← hm] at hv hc1
        have hm2 : m ≤ 100000 := by rw [hm]; exact Hl.out n hn4
        have Hm := Lib.hid hm
        have Hcv : Hid (w.cell? ⟨xb, n, none⟩ = some (.slice a m c)) := Lib.hid ((cell_of_blk Hxb.out n).trans ((vn_cell X hn4).trans (by rw [hv])))
        clear hb hv hx1 hm hc1 hm1
        go_wp2_with fail
        go_loopw [9, 10] (fun ov iv wr => ∃ k : Nat, k ≤ m ∧ iv = .int .i64 k ∧ ∃ xa rl xc, ov = .slice xa rl xc ∧ OwnM15 wr w.heap.size (.slice xa rl xc) (((X.l n).take k).filter (covS s g)) ∧ rl ≤ k ∧ Below w.heap.size w wr) (fun _ iv _ => m - (intOf iv).toNat)
        case atStart => exact ⟨0, Nat.zero_le _, rfl, none, 0, 0, rfl, World.ownsRow_nil _ _ _ _, Nat.le_refl _, Hb.out⟩
        case round =>
          obtain ⟨wo, rfl⟩ : ∃ wo : World, wo = wr := ⟨_, rfl⟩
          obtain ⟨k, hk, rfl, xa, rl, xc, rfl, hown, hrl, hb⟩ := hrel
          have hcv := (hb.cell (block_lt_of_cell Hcv.out)).trans Hcv.out
          by_cases hkm : k < m
          · obtain ⟨b, off, rfl, hcell⟩ := Hx1.out (by rw [← List.length_pos_iff, ← Hm.out]; omega)
            obtain ⟨r, hr⟩ : ∃ r, (X.l n)[k]? = some r := ⟨_, List.getElem?_eq_getElem (by rw [← Hm.out]; exact hkm)⟩
            have hrr := Hrr.out r (List.mem_of_getElem? hr)
            have h1 := Lib.hid (mrC_one' hrr)
            obtain ⟨d0, d1, d2, d3, d4, d5, d6, d7, d8⟩ := IsMr.row (w := wo) (fun i x hi j y hj => (hb.cell (block_lt_of_cell (hcell i x hi j y hj))).trans (hcell i x hi j y hj)) hr
            have hgd := Hgd.out n hn4 r (List.mem_of_getElem? hr)
            have htk := take_flt (p := covS s g) hr
            obtain ⟨ra, rc, hrv, -, -, -⟩ := id hrr
            obtain ⟨⟨z, n2, ka, kb, refs⟩, vr⟩ := r
            dsimp only at d0 d1 d2 d3 d4 d5 d6 d7 d8 hrv hgd
            obtain ⟨rn, hrn⟩ : ∃ rn, rn = refs.length := ⟨_, rfl⟩
            rw [← hrn] at hrv
            subst hrv
            have Htk := Lib.hid htk
            have HA := Lib.hid ((Below.refl wo.heap.size wo).alloc (Nat.le_refl _) (.cells #[.int .i64 z, .int .i64 n2, .string ka.u, .int .i64 ka.s, .int .i64 ka.k, .string kb.u, .int .i64 kb.s, .int .i64 kb.k, .slice ra rn rc] 73))
            have HM := Lib.hid (blk_of_alloc wo (.cells #[.int .i64 z, .int .i64 n2, .string ka.u, .int .i64 ka.s, .int .i64 ka.k, .string kb.u, .int .i64 kb.s, .int .i64 kb.k, .slice ra rn rc] 73))
            have HO1 := Lib.hid (fun W => Order_bel ka.u g hgd.2.1 Hg.out W)
            have HO2 := Lib.hid (fun W => Order_bel s kb.u Hs.out hgd.2.2 W)
            have Hown := Lib.hid hown
            have Hb2 := Lib.hid hb
            obtain ⟨mb, hmb⟩ : ∃ mb, mb = wo.heap.size := ⟨_, rfl⟩
            have Hmb := Lib.hid hmb
            rw [← hmb] at HM
            clear hown hb hr hrr hcell hgd htk hrn hmb
            have Hcs : Hid (covS s g (⟨z, n2, ka, kb, refs⟩, .slice ra rn rc) = (decide (cmpB ka.u g ≤ 0) && decide (cmpB s kb.u ≤ 0))) := Lib.hid rfl
            generalize covS s g (⟨z, n2, ka, kb, refs⟩, .slice ra rn rc) = cv at *
            generalize cmpB ka.u g = D1 at *
            generalize cmpB s kb.u = D2 at *
            by_cases hd1 : D1 ≤ 0
            · have e1 : decide (D1 ≤ 0) = true := decide_eq_true hd1
              by_cases hd2 : D2 ≤ 0
              · have e2 : decide (D2 ≤ 0) = true := decide_eq_true hd2
                have Hcv2 : Hid (cv = true) := Lib.hid (by rw [Hcs.out, e1, e2]; rfl)
                go_wp2_with fail
                rw [← Hmb.out]
                refine (HO1.out _).mono ?_
                rintro e wa ⟨rfl, hba⟩
                have hba2 := HA.out.trans (hba.mono HA.out.size)
                have HMa := Lib.hid (blk_bels hba HM.out)
                have m5 := (cell_of_blk HMa.out 5).trans (show _ = some (.string kb.u) from rfl)
                clear d0 d1 d2 d3 d4 d5 d6 d7 d8 hba
                have Hba2 := Lib.hid hba2
                clear hba2
                go_wp2_with fail
                refine (HO2.out _).mono ?_
                rintro e wd ⟨rfl, hbd⟩
                have hbo := Hba2.out.trans (hbd.mono Hba2.out.size)
                have HMd := Lib.hid (blk_bels hbd HMa.out)
                have g0 := (cell_of_blk HMd.out 0).trans (show _ = some (.int .i64 z) from rfl)
                have g1 := (cell_of_blk HMd.out 1).trans (show _ = some (.int .i64 n2) from rfl)
                have g2 := (cell_of_blk HMd.out 2).trans (show _ = some (.string ka.u) from rfl)
                have g3 := (cell_of_blk HMd.out 3).trans (show _ = some (.int .i64 ka.s) from rfl)
                have g4 := (cell_of_blk HMd.out 4).trans (show _ = some (.int .i64 ka.k) from rfl)
                have g5 := (cell_of_blk HMd.out 5).trans (show _ = some (.string kb.u) from rfl)
                have g6 := (cell_of_blk HMd.out 6).trans (show _ = some (.int .i64 kb.s) from rfl)
                have g7 := (cell_of_blk HMd.out 7).trans (show _ = some (.int .i64 kb.k) from rfl)
                have g8 := (cell_of_blk HMd.out 8).trans (show _ = some (.slice ra rn rc) from rfl)
                obtain ⟨ya, yc, w2, hrun, hown2, hg2⟩ := push_m15 wd w.heap.size xa rl xc _ _ (own_below Hown.out hbo) h1.out (by omega) (Nat.le_trans Hb2.out.size hbo.size) [.int .i64 z, .int .i64 n2, .string ka.u, .int .i64 ka.s, .int .i64 ka.k, .string kb.u, .int .i64 kb.s, .int .i64 kb.k, .slice ra rn rc] rfl
                have Hb3 := Lib.hid (push_below (Hb2.out.trans (hbo.mono Hb2.out.size)) (own_below Hown.out hbo) hg2 (Nat.le_refl _) (Nat.le_trans Hb2.out.size hbo.size))
                have Hown2 := Lib.hid hown2
                clear hbd hbo hown2 hg2 m5
                go_wp2_with (at_builtin; first | (refine wpList_val rfl _ _ (run_append_op (.tmp 58) (.tmp 60) 65 65 rfl rfl rfl hrun) ?_) | (refine wpList_val rfl _ _ (run_append_op (.tmp 58) (.tmp 60) 65 65 rfl (by simp) (by simp) hrun) ?_))
                go_roundw
                case rel => exact ⟨k + 1, by omega, by go_num, ya, rl + 1, yc, rfl, by rw [Htk.out, if_pos Hcv2.out]; exact Hown2.out, by omega, Hb3.out⟩
                case measure => simp [intOf]; omega
              · have e2 : decide (D2 ≤ 0) = false := decide_eq_false hd2
                have Hcv2 : Hid (¬ cv = true) := Lib.hid (by rw [Hcs.out, e2, Bool.and_false]; decide)
                go_wp2_with fail
                rw [← Hmb.out]
                refine (HO1.out _).mono ?_
                rintro e wa ⟨rfl, hba⟩
                have hba2 := HA.out.trans (hba.mono HA.out.size)
                have HMa := Lib.hid (blk_bels hba HM.out)
                have m5 := (cell_of_blk HMa.out 5).trans (show _ = some (.string kb.u) from rfl)
                clear d0 d1 d2 d3 d4 d5 d6 d7 d8 hba
                have Hba2 := Lib.hid hba2
                clear hba2
                go_wp2_with fail
                refine (HO2.out _).mono ?_
                rintro e wd ⟨rfl, hbd⟩
                have Hbo := Lib.hid (Hba2.out.trans (hbd.mono Hba2.out.size))
                clear hbd m5
                go_wp2_with fail
                go_roundw
                case rel => exact ⟨k + 1, by omega, by go_num, xa, rl, xc, rfl, by rw [Htk.out, if_neg Hcv2.out, List.append_nil]; exact own_below Hown.out Hbo.out, by omega, Hb2.out.trans (Hbo.out.mono Hb2.out.size)⟩
                case measure => simp [intOf]; omega
            · have e1 : decide (D1 ≤ 0) = false := decide_eq_false hd1
              have Hcv2 : Hid (¬ cv = true) := Lib.hid (by rw [Hcs.out, e1, Bool.false_and]; decide)
              go_wp2_with fail
              rw [← Hmb.out]
              refine (HO1.out _).mono ?_
              rintro e wa ⟨rfl, hba⟩
              have Hbo := Lib.hid (HA.out.trans (hba.mono HA.out.size))
              clear d0 d1 d2 d3 d4 d5 d6 d7 d8 hba
              go_wp2_with fail
              go_roundw
              case rel => exact ⟨k + 1, by omega, by go_num, xa, rl, xc, rfl, by rw [Htk.out, if_neg Hcv2.out, List.append_nil]; exact own_below Hown.out Hbo.out, by omega, Hb2.out.trans (Hbo.out.mono Hb2.out.size)⟩
              case measure => simp [intOf]; omega
          · obtain rfl : k = m := by omega
            rw [Hm.out, List.take_length] at hown
            have Hown := Lib.hid hown
            have Hb2 := Lib.hid hb
            clear hown hb
            go_wp2_with fail
            go_ret
            have hown := Hown.out
            have hq := own_n hown
            refine Lib.hid ⟨xa, xc, (X.l n).filter (covS s g), by rw [← hq]; rfl, ?_, HN.out, Hb2.out⟩
            rw [hq] at hown
            exact ⟨isSl_own mrC_len hown, fun x hx => (Hrr.out x (List.mem_filter.1 hx).1).below Hb2.out⟩
end Go.Proofs.YtcmndnglmpkpdaaDoor.Tithe
