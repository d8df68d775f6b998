/- small; awake. -/
import Derived.Test.YtcgkpbhoiaeolaaMerMerge
namespace Go.Proofs.Ytcgkpbhoiaeolaa.Tithe
open Go.RowKit Go.Sort Go.Shelf
set_option linter.unusedVariables false
def smallI (ls : List (List It)) : Bool := decide (∀ i, i < ls.length → (ls.getD i []).length ≤ 40) && decide (ls.length ≤ 10)
theorem smallI_iff {ls : List (List It)} (h : smallI ls = true) : ls.length ≤ 10 ∧ ∀ i, i < ls.length → (ls.getD i []).length ≤ 40 := by
  unfold smallI at h
  simp only [Bool.and_eq_true, decide_eq_true_eq] at h
  exact ⟨h.2, h.1⟩
theorem small_any (v : Value) (ls : List (List It)) (w : World) (h : IsIts w v ls) :
    Calls Try.prog 9 #[v] w fun e w' => e = .returned (.bool (smallI ls)) ∧ w = w' := by
  obtain ⟨a, c, rfl, -, -, -⟩ := id h
  obtain ⟨-, hc, hm, hx⟩ := h.at
  have Hx := Lib.hid hx
  clear h hx
  obtain ⟨n, hn⟩ : ∃ n, n = ls.length := ⟨_, rfl⟩
  rw [← hn] at hc Hx ⊢
  have Hn := Lib.hid hn
  have hfin : Hid ((∀ i, i < n → (ls.getD i []).length ≤ 40) → decide ((n : Int) ≤ 10) = smallI ls) := by
    intro h
    unfold smallI
    rw [hn] at h
    rw [decide_eq_true h, Bool.true_and]
    exact decide_eq_decide.2 (by omega)
  have hno : Hid (∀ i, i < n → 40 < (ls.getD i []).length → smallI ls = false) := by
    intro i hi h
    unfold smallI
    rw [decide_eq_false (fun q => by have := q i (by omega); omega)]; rfl
  clear hn
  go_enter Try.func9, Try.ntmps9
  go_wp2
  go_loop [7] (fun i => ∃ k : Nat, k ≤ n ∧ i = .int .i64 k ∧ ∀ j, j < k → (ls.getD j []).length ≤ 40) (fun i => n - (intOf i).toNat)
  case atStart => exact ⟨0, Nat.zero_le _, rfl, fun j hj => by omega⟩
  case round =>
    obtain ⟨k, hk, rfl, hall⟩ := hrel
    have Hall := Lib.hid hall
    clear hall
    by_cases hlt : k < n
    · obtain ⟨b, off, rfl, hcell⟩ := Hx.out (by omega)
      obtain ⟨ka, kn, kc, hx, hkb⟩ := hcell k hlt
      obtain ⟨hkn, h1, h2, -⟩ := hkb.at
      have Hkn := Lib.hid hkn
      clear hcell hkb hkn
      by_cases hlong : (40 : Int) < (kn : Int)
      · have hr := Lib.hid (hno.out k hlt (by rw [← Hkn.out]; omega))
        go_wp2
        go_ret
        exact ⟨by rw [hr.out]; rfl, rfl⟩
      · have hnext : Hid (∀ j, j < k + 1 → (ls.getD j []).length ≤ 40) := by
          intro j hj
          rcases Nat.lt_or_ge j k with q | q
          · exact Hall.out j q
          · obtain rfl : j = k := by omega
            rw [← Hkn.out]; omega
        go_wp2
        go_round
        case rel => exact ⟨k + 1, by omega, by go_num, hnext.out⟩
        case measure => simp [intOf]; omega
    · obtain rfl : k = n := by omega
      have hr := Lib.hid (hfin.out Hall.out)
      go_wp2
      go_ret
      exact ⟨by rw [← hr.out]; rfl, rfl⟩
def awL : List (List It) := [[(1, 7), (3, 8)], [(1, 9), (2, 5)]]
theorem aw1 : oneL awL = [(1, 7), (2, 5), (3, 8)] := by decide +kernel
theorem aw2 : runsB awL = true := by decide +kernel
theorem own_items {w : World} {base : Nat} {e : TypeId} {g n cap : Nat} {l : List It} (h : w.ownsRow base e 2 (.slice (some ⟨g, 0, none⟩) n cap) n (cellsP l)) {i : Nat} (hi : i < l.length) : w.cell? ⟨g, i * 2, none⟩ = some (.int .i64 (l.getD i (0, 0)).1) ∧ w.cell? ⟨g, i * 2 + 1, none⟩ = some (.int .i64 (l.getD i (0, 0)).2) := by
  obtain ⟨a1, a2⟩ := cellsP_get l i hi
  have c1 := h.cells (g := g) rfl _ _ a1
  have c2 := h.cells (g := g) rfl _ _ a2
  rw [plain_add, Nat.zero_add] at c1 c2
  exact ⟨c1, c2⟩
theorem awake_its (w : World) : IsIts (((w.alloc (.cells #[.int .i64 1, .int .i64 7, .int .i64 3, .int .i64 8] 42)).alloc (.cells #[.int .i64 1, .int .i64 9, .int .i64 2, .int .i64 5] 42)).alloc (.cells #[.slice (some ⟨w.heap.size, 0, none⟩) 2 2, .slice (some ⟨w.heap.size + 1, 0, none⟩) 2 2] 27)) (.slice (some ⟨w.heap.size + 1 + 1, 0, none⟩) 2 2) awL := by
  generalize hW : (((w.alloc (.cells #[.int .i64 1, .int .i64 7, .int .i64 3, .int .i64 8] 42)).alloc (.cells #[.int .i64 1, .int .i64 9, .int .i64 2, .int .i64 5] 42)).alloc (.cells #[.slice (some ⟨w.heap.size, 0, none⟩) 2 2, .slice (some ⟨w.heap.size + 1, 0, none⟩) 2 2] 27)) = W
  have b0 : W.heap[w.heap.size]? = some (.cells #[.int .i64 1, .int .i64 7, .int .i64 3, .int .i64 8] 42 (0, 0)) := by
    rw [← hW]; exact (Below.heap_alloc _ _ _ (by simp; omega)).trans ((Below.heap_alloc _ _ _ (by simp)).trans (World.alloc_heap_new w _))
  have b1 : W.heap[w.heap.size + 1]? = some (.cells #[.int .i64 1, .int .i64 9, .int .i64 2, .int .i64 5] 42 (0, 0)) := by
    rw [← hW]
    have := World.alloc_heap_new (w.alloc (.cells #[.int .i64 1, .int .i64 7, .int .i64 3, .int .i64 8] 42)) (.cells #[.int .i64 1, .int .i64 9, .int .i64 2, .int .i64 5] 42)
    rw [World.size_alloc] at this
    exact (Below.heap_alloc _ _ _ (by simp)).trans this
  have b2 : W.heap[w.heap.size + 1 + 1]? = some (.cells #[.slice (some ⟨w.heap.size, 0, none⟩) 2 2, .slice (some ⟨w.heap.size + 1, 0, none⟩) 2 2] 27 (0, 0)) := by
    rw [← hW]
    have := World.alloc_heap_new ((w.alloc (.cells #[.int .i64 1, .int .i64 7, .int .i64 3, .int .i64 8] 42)).alloc (.cells #[.int .i64 1, .int .i64 9, .int .i64 2, .int .i64 5] 42)) (.cells #[.slice (some ⟨w.heap.size, 0, none⟩) 2 2, .slice (some ⟨w.heap.size + 1, 0, none⟩) 2 2] 27)
    rw [World.size_alloc, World.size_alloc] at this
    exact this
  have two : ∀ (b : Nat) (x1 y1 x2 y2 : Int), W.heap[b]? = some (.cells #[.int .i64 x1, .int .i64 y1, .int .i64 x2, .int .i64 y2] 42 (0, 0)) → IsIt W (.slice (some ⟨b, 0, none⟩) 2 2) [(x1, y1), (x2, y2)] := by
    intro b x1 y1 x2 y2 hb
    refine ⟨_, _, rfl, Nat.le_refl _, by decide, fun _ => ⟨_, _, rfl, fun i hi => ?_⟩⟩
    match i, hi with
    | 0, _ => exact ⟨by rw [cell_of_blk hb]; rfl, by rw [cell_of_blk hb]; rfl⟩
    | 1, _ => exact ⟨by rw [cell_of_blk hb]; rfl, by rw [cell_of_blk hb]; rfl⟩
  refine ⟨_, _, rfl, Nat.le_refl _, by decide, fun _ => ⟨_, _, rfl, fun i hi => ?_⟩⟩
  match i, hi with
  | 0, _ => exact ⟨_, _, _, by rw [cell_of_blk b2]; rfl, two _ _ _ _ _ b0⟩
  | 1, _ => exact ⟨_, _, _, by rw [cell_of_blk b2]; rfl, two _ _ _ _ _ b1⟩
theorem awake_any (w : World) :
    Calls Try.prog 10 #[] w fun e w' => e = .returned (.bool true) ∧ Below w.heap.size w w' := by
  have hits := awake_its w
  generalize hW : (((w.alloc (.cells #[.int .i64 1, .int .i64 7, .int .i64 3, .int .i64 8] 42)).alloc (.cells #[.int .i64 1, .int .i64 9, .int .i64 2, .int .i64 5] 42)).alloc (.cells #[.slice (some ⟨w.heap.size, 0, none⟩) 2 2, .slice (some ⟨w.heap.size + 1, 0, none⟩) 2 2] 27)) = W at hits
  have hbW : Below w.heap.size w W := by rw [← hW]; exact (((Below.refl _ _).alloc (Nat.le_refl _) _).alloc (by simp) _).alloc (by simp; omega) _
  have hm := merge_yes _ awL W hits (.inr ⟨_, _, _, rfl⟩) (by decide) aw2 (fun i hi => by
    have : i < 2 := hi
    match i, this with
    | 0, _ => decide
    | 1, _ => decide) (by rw [aw1]; decide)
  rw [aw1] at hm
  have Hm := Lib.hid hm
  have HW := Lib.hid hW
  have HbW := Lib.hid hbW
  clear hm hW hbW hits
  go_enter Try.func10, Try.ntmps10
  go_wp2_with fail
  rw [HW.out]
  refine Hm.out.mono ?_
  rintro e w2 ⟨v', rfl, hown, hb⟩
  obtain ⟨g, cap, rfl, -, -⟩ := hown.form (by decide)
  have hfin := Lib.hid (HbW.out.trans (hb.mono HbW.out.size))
  have c1 : w2.cell? ⟨g, 1, none⟩ = some (.int .i64 7) := (own_items (i := 0) hown (by decide)).2
  have c2 : w2.cell? ⟨g, 2, none⟩ = some (.int .i64 2) := (own_items (i := 1) hown (by decide)).1
  have c3 : w2.cell? ⟨g, 5, none⟩ = some (.int .i64 8) := (own_items (i := 2) hown (by decide)).2
  clear hown hb
  go_wp2
  go_ret
  exact ⟨rfl, hfin.out⟩
end Go.Proofs.Ytcgkpbhoiaeolaa.Tithe
