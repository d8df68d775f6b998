/- slices.Delete of one meta: walked. -/
import Derived.Test.YthjjelomlgmllaaLevVer
import Derived.Test.YthjjelomlgmllaaRowEdit
import Derived.StillTailTactics
namespace Go.Proofs.Ythjjelomlgmllaa.Tithe
open Go.RowKit Go.Sort Go.Shelf
set_option linter.unusedVariables false
set_option linter.unusedSimpArgs false
set_option maxRecDepth 100000
def zM : List Value := [.int .i64 0, .int .i64 0, .string ⟨#[]⟩, .int .i64 0, .int .i64 0, .string ⟨#[]⟩, .int .i64 0, .int .i64 0, .slice none 0 0]
theorem zM_zero : (Builtin.zeroCells (Value.agg #[.int .i64 0, .int .i64 0, .string ⟨#[]⟩, .int .i64 0, .int .i64 0, .string ⟨#[]⟩, .int .i64 0, .int .i64 0, .slice none 0 0]).cells 1).toList = zM := by kernel_rfl
theorem zM_one : ∀ u ∈ zM, u.oneCell' = true := by
  intro u hu
  simp only [zM, List.mem_cons, List.not_mem_nil, or_false] at hu
  rcases hu with rfl | rfl | rfl | rfl | rfl | rfl | rfl | rfl | rfl <;> rfl
theorem OwnMs.one {W : World} {base : Nat} {v : Value} {rows : List Mr} (h : OwnMs W base v rows) : ∀ u ∈ flat mrC rows, u.oneCell' = true := by
  intro u hu
  simp only [flat, List.mem_flatMap] at hu
  obtain ⟨r, hr, hu⟩ := hu
  exact mrC_one (h.2 r hr) u hu
theorem still_tailD {P : Program} {id : Nat} {Q : Exit → Act → World → Prop} {a : Act} {w : World} {l : List Oper} (n : Nat) (hm : P.follows .mixedOrders = true) (hB : Region.lexTailB .any l.toArray n = true)
    (h : wpStill P l.toArray w.drew (fun a' => wpList P l.toArray Q (l.drop n) a' w.drew) (l.take n) a) : (Code.region id l.toArray true).wp P Q a w := wp_region_still_tail n hm hB h
/-- what becomes where one element is taken out -/
theorem mdel_world (g n cap i : Nat) (l : List Mr) (w : World) (base : Nat) (h : OwnMs w base (.slice (some ⟨g, 0, none⟩) n cap) l) (hi : i < n) (hn : n ≤ 1000000) (a : Addr) (m c : Nat) (hm : m = n - (i + 1)) (ha : 0 < m → a = ⟨g, (i + 1) * 9, none⟩) :
    ∃ w1 w2, (Builtin.append_ #[58, 58] 58 #[.slice (some ⟨g, 0, none⟩) i cap, .slice (some a) m c]).run Try.prog w.drew = .ok (.slice (some ⟨g, 0, none⟩) (n - 1) cap) w1 ∧
      (∀ cc, (Builtin.clear_ #[58] 0 #[.slice (some ⟨g, (n - 1) * 9, none⟩) 1 cc]).run Try.prog w1 = .ok (.tuple #[]) w2) ∧ Hid (OwnMs w2 base (.slice (some ⟨g, 0, none⟩) (n - 1) cap) (l.eraseIdx i) ∧ w.grownBy w2 (some g)) := by
  obtain ⟨i0, hi0, hz0, hz1, hz2⟩ := info_partsL mtInfo3
  have hln : l.length = n := by
    rcases h.1.2 with ⟨e, -⟩ | ⟨g', cap', cur, e, -⟩
    · cases e
    · injection e with _ e _; exact e.symm
  subst hln
  obtain ⟨cur, hg, hb, hnc, hcm, hcs, htake⟩ := own_blk h.1
  have hF : (flat mrC l).length = l.length * 9 := flat_length mrC_len l
  have hnews : ((flat mrC l).drop ((i + 1) * 9)).length = m * 9 := by rw [List.length_drop, hF, hm]; omega
  have happ := run_append_room (P := Try.prog) (w := w.drew) 58 58 78 i0 Try.underlying58 hi0 g i cap cur hg a m c ((flat mrC l).drop ((i + 1) * 9)) (by rw [hz1]; exact hnews) (fun j u hj => by
    have hlt := (List.getElem?_eq_some_iff.1 hj).1
    rw [ha (by omega), plain_add']
    rw [List.getElem?_drop] at hj
    have := h.1.cells (g := g) rfl _ _ hj
    rw [plain_add', Nat.zero_add] at this
    exact this) (fun u hu => h.one u (List.mem_of_mem_drop hu)) (by omega) (by rw [hz1, hnews, hcs]; omega)
  rw [hz1, show i + m = l.length - 1 by omega] at happ
  have hpp : (cur.toList.take (i * 9) ++ (flat mrC l).drop ((i + 1) * 9) ++ cur.toList.drop (i * 9 + ((flat mrC l).drop ((i + 1) * 9)).length)) = patch cur.toList (i * 9) ((flat mrC l).drop ((i + 1) * 9)) := rfl
  rw [hpp] at happ
  have hcl : cur.toList.length = cap * 9 := by rw [Array.length_toList]; exact hcs
  have hp1 : (patch cur.toList (i * 9) ((flat mrC l).drop ((i + 1) * 9))).length = cap * 9 := by rw [patch_len (by rw [hnews, hcl]; omega)]; exact hcl
  have hg1 : (w.drew.setRow g (patch cur.toList (i * 9) ((flat mrC l).drop ((i + 1) * 9))).toArray).heap[g]? = some (.cells (patch cur.toList (i * 9) ((flat mrC l).drop ((i + 1) * 9))).toArray 78 (0, 0)) := setRow_blk w.drew g _ hg
  refine ⟨_, _, happ, fun cc => run_clear_k (P := Try.prog) _ 58 0 78 i0 _ Try.underlying58 hi0 hz0 g ((l.length - 1) * 9) 1 cc (by omega) _ 78 hg1 (by rw [zM_zero]; simp only [List.size_toArray, hp1]; show (l.length - 1) * 9 + 9 ≤ _; omega) (by rw [zM_zero]; exact zM_one), ?_, ?_⟩
  · rw [zM_zero]
    have hg2 := setRow_blk (w.drew.setRow g (patch cur.toList (i * 9) ((flat mrC l).drop ((i + 1) * 9))).toArray) g (patch (patch cur.toList (i * 9) ((flat mrC l).drop ((i + 1) * 9))) ((l.length - 1) * 9) zM).toArray hg1
    have hgr : w.grownBy ((w.drew.setRow g (patch cur.toList (i * 9) ((flat mrC l).drop ((i + 1) * 9))).toArray).setRow g (patch (patch cur.toList (i * 9) ((flat mrC l).drop ((i + 1) * 9))) ((l.length - 1) * 9) zM).toArray) (some g) :=
      grown_trans' (grown_trans' (⟨rfl, rfl, rfl, Nat.le_refl _, fun _ _ _ => rfl⟩ : w.grownBy w.drew (some g)) (setRow_grown _ _ _)) (setRow_grown _ _ _)
    refine ⟨?_, fun r hr => rr_kept (h.2 r (List.mem_of_mem_eraseIdx hr)) hgr (fun q e => by cases e; exact ⟨_, _, hg⟩)⟩
    have hlen2 : (l.eraseIdx i).length = l.length - 1 := by rw [List.length_eraseIdx, if_pos hi]
    rw [hlen2]
    refine own_of hg2 hb (by omega) hcm ?_ ?_
    · simp only [List.size_toArray]
      rw [patch_len (by rw [hp1]; show (l.length - 1) * 9 + 9 ≤ _; omega)]; exact hp1
    · simp only
      rw [del_rows htake hF hi, flat_erase mrC_len]
  · exact grown_trans' (grown_trans' (⟨rfl, rfl, rfl, Nat.le_refl _, fun _ _ _ => rfl⟩ : w.grownBy w.drew (some g)) (setRow_grown _ _ _)) (setRow_grown _ _ _)
set_option maxHeartbeats 1600000 in
theorem mdelete_any (g N cap i : Nat) (l : List Mr) (w : World) (base : Nat) (h : OwnMs w base (.slice (some ⟨g, 0, none⟩) (N + 1) cap) l) (hi : i < N + 1) (hn : N + 1 ≤ 1000000) :
    Calls Try.prog 53 #[.slice (some ⟨g, 0, none⟩) (N + 1) cap, .int .i64 i, .int .i64 ((i : Int) + 1)] w fun e w' => e = .returned (.slice (some ⟨g, 0, none⟩) N cap) ∧ OwnMs w' base (.slice (some ⟨g, 0, none⟩) N cap) (l.eraseIdx i) ∧ w.grownBy w' (some g) := by
  obtain ⟨cur, hg, hb, hnc, hcm, -⟩ := own_blk (by
    have hln : l.length = N + 1 := by
      rcases h.1.2 with ⟨e, -⟩ | ⟨g', cap', cur, e, -⟩
      · cases e
      · injection e with _ e _; exact e.symm
    have := h.1
    rw [hln] at this
    exact this)
  clear hg cur
  have hcm' : cap ≤ 9223372036854775807 := by unfold maxLen at hcm; omega
  have q1 : (0 : Int) ≤ (i : Int) + 1 := by omega
  have q2 : (i : Int) + 1 ≤ (N : Int) + 1 := by omega
  have q3 : (i : Int) ≤ (N : Int) + 1 := by omega
  have q4 : N + 1 ≤ cap := hnc
  have q5 : i ≤ cap := by omega
  have q6 : i + 1 ≤ N + 1 := by omega
  have q7 : ¬ cap = N := by omega
  have q8 : (N : Int) ≤ (N : Int) + 1 := by omega
  by_cases hce : cap = i + 1
  · obtain rfl : N = i := by omega
    subst hce
    have q9 : N ≤ N + 1 := by omega
    have q10 : (N : Int) ≤ ((N + 1 : Nat) : Int) := by omega
    obtain ⟨w1, w2, happ, hclr, hout⟩ := mdel_world g (N + 1) (N + 1) N l w base h hi hn ⟨g, 0, none⟩ 0 0 (by omega) (by omega)
    simp only [Nat.add_sub_cancel] at happ hclr hout
    clear h
    go_enter Try.func53, Try.ntmps53
    go_wp2_with fail
    refine still_tailD 6 (by kernel_rfl) (by kernel_rfl) ?_
    simp only [List.take_succ_cons, List.take_zero, List.drop_succ_cons, List.drop_zero]
    repeat still_step
    refine wpStill_nil ?_
    refine wpList_val rfl _ _ (run_append_op (.tmp 22) (.tmp 25) 58 58 rfl rfl rfl happ) ?_
    clear happ
    go_wp2_with (with_reducible refine wpList_val rfl _ _ (run_clear_op (.tmp 31) 58 rfl rfl (hclr _)) ?_)
    go_ret
    exact ⟨rfl, hout.out⟩
  · obtain ⟨w1, w2, happ, hclr, hout⟩ := mdel_world g (N + 1) cap i l w base h hi hn ⟨g, (i + 1) * 9, none⟩ (N - i) (cap - (i + 1)) (by omega) (fun _ => rfl)
    simp only [Nat.add_sub_cancel] at happ hclr hout
    clear h
    go_enter Try.func53, Try.ntmps53
    go_wp2_with fail
    refine still_tailD 6 (by kernel_rfl) (by kernel_rfl) ?_
    simp only [List.take_succ_cons, List.take_zero, List.drop_succ_cons, List.drop_zero]
    repeat still_step
    refine wpStill_nil ?_
    refine wpList_val rfl _ _ (run_append_op (.tmp 22) (.tmp 25) 58 58 rfl rfl rfl happ) ?_
    clear happ
    go_wp2_with (with_reducible refine wpList_val rfl _ _ (run_clear_op (.tmp 31) 58 rfl rfl (hclr _)) ?_)
    go_ret
    exact ⟨rfl, hout.out⟩
end Go.Proofs.Ythjjelomlgmllaa.Tithe
