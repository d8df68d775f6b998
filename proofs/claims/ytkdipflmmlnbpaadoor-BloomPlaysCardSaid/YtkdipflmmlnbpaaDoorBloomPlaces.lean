/- The law BloomPlaces, walked. -/
import Derived.Test.YtkdipflmmlnbpaaDoorBloomCollect
import Derived.StillTailTactics
import Derived.StillTactics
namespace Go.Proofs.YtkdipflmmlnbpaaDoor.Tithe
open Go.RowKit Go.Sort Go.Shelf
set_option linter.unusedVariables false
theorem lplaces_long (v : Value) (l : List Nat) (a1 a2 : Int) (w : World) (h : IsBytes w v l) (ht : TabOk w) (hs : (1000 : Int) < l.length) :
    Calls Tryd.prog 6 #[v, .int .i64 a1, .int .i64 a2] w fun e w' => e = .returned (.bool true) ∧ Below w.heap.size w w' := by
  have Ht := Lib.hid ht
  obtain ⟨h8, a, c, rfl, g1, g2, h3⟩ := h
  unfold maxLen at g2
  clear h3 ht h8
  go_enter Tryd.func6, Tryd.ntmps6
  go_wp2_with fail
  refine (awake_any w Ht.out).mono ?_
  rintro e w' ⟨rfl, hb⟩
  go_wp2
  go_ret
  exact ⟨rfl, hb⟩
theorem lplaces_no (v : Value) (l : List Nat) (n p : Int) (w : World) (h : IsBytes w v l) (ht : TabOk w) (hs : (l.length : Int) ≤ 1000) (hnp : n < 1 ∨ 16777216 < n ∨ p < 1 ∨ 30 < p) :
    Calls Tryd.prog 6 #[v, .int .i64 n, .int .i64 p] w fun e w' => e = .returned (.bool true) ∧ Below w.heap.size w w' := by
  have Ht := Lib.hid ht
  have HP := Lib.hid (places_no v n p w hnp)
  obtain ⟨h8, a, c, rfl, g1, g2, h3⟩ := h
  unfold maxLen at g2
  clear h3 ht h8
  have hq : decide (n < 1) = true ∨ (decide (n < 1) = false ∧ (decide (16777216 < n) = true ∨ (decide (16777216 < n) = false ∧ (decide (p < 1) = true ∨ (decide (p < 1) = false ∧ decide (30 < p) = true))))) := by
    by_cases a1 : n < 1
    · exact .inl (decide_eq_true a1)
    · refine .inr ⟨decide_eq_false a1, ?_⟩
      by_cases a2 : 16777216 < n
      · exact .inl (decide_eq_true a2)
      · refine .inr ⟨decide_eq_false a2, ?_⟩
        by_cases a3 : p < 1
        · exact .inl (decide_eq_true a3)
        · exact .inr ⟨decide_eq_false a3, decide_eq_true (by omega)⟩
  clear hnp
  rcases hq with q | ⟨q, q' | ⟨q', q2 | ⟨q2, q3⟩⟩⟩
  all_goals
    go_enter Tryd.func6, Tryd.ntmps6
    go_wp2_with fail
    refine HP.out.mono ?_
    rintro e w' ⟨rfl, rfl⟩
    go_wp2_with fail
    refine (awake_any w Ht.out).mono ?_
    rintro e w' ⟨rfl, hb⟩
    go_wp2
    go_ret
    exact ⟨rfl, hb⟩
theorem own_cells {w : World} {base g n cap : Nat} {e : TypeId} {xs : List Nat} (h : w.ownsRow base e 1 (.slice (some ⟨g, 0, none⟩) n cap) n (cellsI xs)) {k : Nat} (hk : k < xs.length) : w.cell? ⟨g, k, none⟩ = some (.int .i64 (xs[k] : Nat)) := by
  have := h.cells rfl k (.int .i64 (xs[k] : Nat)) (by simp [cellsI, hk])
  rw [plain_add, Nat.zero_add] at this
  exact this
theorem lplaces_yes (v : Value) (l : List Nat) (n p : Nat) (w : World) (h : IsBytes w v l) (ht : TabOk w) (hs : (l.length : Int) ≤ 1000) (h1 : 1 ≤ n) (h2 : n ≤ 16777216) (h3 : 1 ≤ p) (h4 : p ≤ 30) :
    Calls Tryd.prog 6 #[v, .int .i64 n, .int .i64 p] w fun e w' => e = .returned (.bool true) ∧ Below w.heap.size w w' := by
  have Ht := Lib.hid ht
  have H := Lib.hid h
  obtain ⟨h8, a, c, rfl, g1, g2, hc3⟩ := h
  unfold maxLen at g2
  clear hc3 ht h8
  go_enter Tryd.func6, Tryd.ntmps6
  go_wp2_with fail
  refine (places_yes _ _ _ l n p h1 h2 h3 h4 w H.out Ht.out).mono ?_
  rintro e w1 ⟨x, rfl, ho1, hb1⟩
  obtain ⟨gx, cx, rfl, hgx⟩ := own_form' ho1 (by omega)
  have Ho1 := Lib.hid ho1
  have hw1 := hb1.size
  have H1 := Lib.hid (H.out.below hb1)
  clear ho1
  go_wp2_with fail
  refine (refplaces_any _ l n p w1 H1.out (by omega) (by omega) (by omega)).mono ?_
  rintro e w2 ⟨y, rfl, ho2, hb2⟩
  obtain ⟨gy, cy, rfl, hgy⟩ := own_form' ho2 (by omega)
  have Ho2 := Lib.hid ho2
  clear ho2
  have hw2 := hb2.size
  have hbw2 : Below w.heap.size w w2 := hb1.trans (hb2.mono hw1)
  go_wp2_with fail
  go_loopw [49] (fun i wr => ∃ k : Nat, k ≤ p ∧ i = .int .i64 k ∧ Below w2.heap.size w2 wr) (fun i _ => p - (intOf i).toNat)
  case atStart => exact ⟨0, Nat.zero_le _, rfl, Below.refl _ _⟩
  case round =>
    obtain ⟨k, hk, rfl, hb⟩ := hrel
    by_cases hlt : k < p
    · have hlen : (keyPlaces l n p).length = p := by simp [keyPlaces, places]
      have hkl : k < (keyPlaces l n p).length := by omega
      have hx0 := own_cells Ho1.out hkl
      have hy0 := own_cells Ho2.out hkl
      have hq : (keyPlaces l n p)[k] < n := places_lt (by omega) _ (List.getElem_mem _)
      generalize (keyPlaces l n p)[k] = q at *
      have hxw2 : w2.cell? ⟨gx, k, none⟩ = some (.int .i64 q) := by rw [hb2.cell (block_lt_of_cell hx0)]; exact hx0
      have hx : wr.cell? ⟨gx, k, none⟩ = some (.int .i64 q) := by rw [hb.cell (block_lt_of_cell hxw2)]; exact hxw2
      have hy : wr.cell? ⟨gy, k, none⟩ = some (.int .i64 q) := by rw [hb.cell (block_lt_of_cell hy0)]; exact hy0
      have hqn : (q : Int) < (n : Int) := by omega
      clear hx0 hy0 hxw2 hlen hkl
      go_wp2
      go_still (by kernel_rfl)
      change Exit.then _ _ _ _ wr.drew
      have hbd : Below w2.heap.size w2 wr.drew := hb.drew
      go_wp2
      go_roundw
      case rel => exact ⟨k + 1, by omega, by go_num, hbd⟩
      case measure => simp [intOf]; omega
    · obtain rfl : k = p := by omega
      go_wp2_with fail
      refine (awake_any wr (Ht.out.below (hbw2.trans (hb.mono (by omega))))).mono ?_
      rintro e w' ⟨rfl, hb'⟩
      go_wp2
      go_ret
      exact ⟨rfl, (hbw2.trans (hb.mono (by omega))).trans (hb'.mono (by have := hb.size; omega))⟩
theorem bloomPlaces_walk (v : Value) (l : List Nat) (a1 a2 : Int) (w : World) (h : IsBytes w v l) (hw1 : (Lit.int .i64 a1).wf = true) (hw2 : (Lit.int .i64 a2).wf = true) (ht : TabOk w) :
    Calls Tryd.prog 6 #[v, .int .i64 a1, .int .i64 a2] w fun e w' => e = .returned (.bool true) ∧ Below w.heap.size w w' := by
  by_cases q : (1000 : Int) < l.length
  · exact lplaces_long v l a1 a2 w h ht q
  · by_cases r : a1 < 1 ∨ 16777216 < a1 ∨ a2 < 1 ∨ 30 < a2
    · exact lplaces_no v l a1 a2 w h ht (by omega) r
    · obtain ⟨n, rfl⟩ : ∃ n : Nat, a1 = n := ⟨a1.toNat, by omega⟩
      obtain ⟨p, rfl⟩ : ∃ p : Nat, a2 = p := ⟨a2.toNat, by omega⟩
      exact lplaces_yes v l n p w h ht (by omega) (by omega) (by omega) (by omega) (by omega)
end Go.Proofs.YtkdipflmmlnbpaaDoor.Tithe
