/- The document's Has: walked. -/
import Derived.Test.YtjefpogeknbelaaRefEdit
import Derived.Test.YtjefpogeknbelaaLevAppP
namespace Go.Proofs.Ytjefpogeknbelaa.Tithe
open Go.RowKit Go.Sort Go.Shelf
set_option linter.unusedVariables false
set_option linter.unusedSimpArgs false
set_option maxRecDepth 100000
theorem hasP_at {L : Lv} {z : Int} {n i : Nat} (hn : n < 4) (h1 : ∀ m, m < n → (L m).findIdx? (fun x => decide (x.z = z)) = none) (h2 : (L n).findIdx? (fun x => decide (x.z = z)) = some i) : hasP L z = some (n, i) := by
  unfold hasP
  simp only [hasF, Nat.zero_add, Nat.reduceAdd]
  match n, hn with
  | 0, _ => rw [h2]
  | 1, _ => rw [h1 0 (by omega), h2]
  | 2, _ => rw [h1 0 (by omega), h1 1 (by omega), h2]
  | 3, _ => rw [h1 0 (by omega), h1 1 (by omega), h1 2 (by omega), h2]
theorem hasP_no {L : Lv} {z : Int} (h1 : ∀ m, m < 4 → (L m).findIdx? (fun x => decide (x.z = z)) = none) : hasP L z = none := by
  unfold hasP
  simp only [hasF, Nat.zero_add, Nat.reduceAdd, h1 0 (by omega), h1 1 (by omega), h1 2 (by omega), h1 3 (by omega)]
/-- what the document's Has answers -/
def Has15 (V : Vn) (z : Int) (w : World) (e : Ending) (w' : World) : Prop := w = w' ∧ match hasP (lvOf V.l) z with
  | none => e = .returned (.tuple #[.int .i64 (-1), .int .i64 (-1)])
  | some p => p.1 < 4 ∧ p.2 < (V.l p.1).length ∧ e = .returned (.tuple #[.int .i64 (p.1 : Nat), .int .i64 (p.2 : Nat)])
theorem has15_mk_no {V : Vn} {z : Int} {w : World} (h : ∀ m, m < 4 → (V.l m).findIdx? (zAt z) = none) : Has15 V z w (.returned (.tuple #[.int .i64 (-1), .int .i64 (-1)])) w := by
  refine ⟨rfl, ?_⟩
  rw [hasP_no (L := lvOf V.l) (fun m hm => (findIdx_map _ _).trans (h m hm))]
theorem has15_mk {V : Vn} {z : Int} {w : World} {n i : Nat} (hn : n < 4) (hi : i < (V.l n).length) (h1 : ∀ m, m < n → (V.l m).findIdx? (zAt z) = none) (h2 : (V.l n).findIdx? (zAt z) = some i) : Has15 V z w (.returned (.tuple #[.int .i64 (n : Nat), .int .i64 (i : Nat)])) w := by
  refine ⟨rfl, ?_⟩
  rw [hasP_at (L := lvOf V.l) hn (fun m hm => (findIdx_map _ _).trans (h1 m hm)) ((findIdx_map _ _).trans h2)]
  exact ⟨hn, hi, rfl⟩
attribute [local go_sem] Oper.semAt_some
set_option maxHeartbeats 1600000 in
theorem has15_any (V : Vn) (vb : Nat) (z : Int) (w : World) (hvb : w.heap[vb]? = some (.cells V.cells 61 (0, 0))) (h : IsVn w V) :
    Calls Try.prog 23 #[.pointer (some ⟨vb, 0, none⟩), .int .i64 z] w fun e w' => Hid (Has15 V z w e w') := by
  have H := Lib.hid h
  have Hvb := Lib.hid hvb
  clear h hvb
  go_enter Try.func23, Try.ntmps23
  go_wp2
  go_loop [6] (fun nv => ∃ n : Nat, n ≤ 4 ∧ nv = .int .i64 n ∧ ∀ m, m < n → (V.l m).findIdx? (zAt z) = none) (fun nv => 4 - (intOf nv).toNat)
  case atStart => exact ⟨0, Nat.zero_le _, rfl, fun m hm => absurd hm (Nat.not_lt_zero _)⟩
  case round =>
    obtain ⟨n, hn, rfl, hno⟩ := hrel
    have Hno := Lib.hid hno
    clear hno
    by_cases hn4 : n < 4
    · have hni : (n : Int) < 4 := by omega
      obtain ⟨a, c, hv, hc1, hm1, hx1⟩ := (H.out n hn4).1
      have cv : w.cell? ⟨vb, n, none⟩ = some (.slice a (V.l n).length c) := (cell_of_blk Hvb.out n).trans ((vn_cell V hn4).trans (by rw [hv]))
      have Hx1 := Lib.hid hx1
      obtain ⟨m, hm⟩ : ∃ m, m = (V.l n).length := ⟨_, rfl⟩
      rw [← hm] at cv hc1
      replace hm1 : c ≤ 9223372036854775807 := by unfold maxLen at hm1; omega
      have Hm := Lib.hid hm
      clear hv hx1 hm
      go_wp2
      go_loop [7] (fun iv => ∃ i : Nat, i ≤ m ∧ iv = .int .i64 i ∧ ∀ j y, j < i → (V.l n)[j]? = some y → zAt z y = false) (fun iv => m - (intOf iv).toNat)
      case atStart => exact ⟨0, Nat.zero_le _, rfl, fun j y hj => absurd hj (Nat.not_lt_zero _)⟩
      case round =>
        obtain ⟨i, hi, rfl, hni2⟩ := hrel
        have Hni := Lib.hid hni2
        clear hni2
        by_cases him : i < m
        · obtain ⟨b, off, rfl, hcell⟩ := Hx1.out (by rw [← List.length_pos_iff]; have := Hm.out; omega)
          obtain ⟨r, hr⟩ : ∃ r, (V.l n)[i]? = some r := ⟨_, List.getElem?_eq_getElem (by rw [← Hm.out]; exact him)⟩
          obtain ⟨d0, -⟩ := IsMr.row hcell hr
          have Hr := Lib.hid hr
          obtain ⟨⟨z', n', a', b', refs⟩, vr⟩ := r
          dsimp only at d0
          clear hcell hr
          by_cases hz : z' = z
          · have hz2 : (z' == z) = true := by simpa using hz
            have HF := Lib.hid (idx_at' (p := zAt z) Hni.out Hr.out (by unfold zAt; simpa using hz))
            clear hz
            go_wp2
            go_ret2
            exact Lib.hid (has15_mk hn4 (by rw [← Hm.out]; exact him) Hno.out HF.out)
          · have hz2 : (z' == z) = false := by simpa using hz
            have HN : Hid (∀ j y, j < i + 1 → (V.l n)[j]? = some y → zAt z y = false) := Lib.hid (fun j y hj hy => by
              by_cases e : j = i
              · subst e; rw [Hr.out] at hy; cases hy; unfold zAt; simpa using hz
              · exact Hni.out j y (by omega) hy)
            clear hz
            go_wp2
            go_round
            case rel => exact ⟨i + 1, by omega, by go_num, HN.out⟩
            case measure => simp [intOf]; omega
        · obtain rfl : i = m := by omega
          have HN : Hid (∀ m, m < n + 1 → (V.l m).findIdx? (zAt z) = none) := Lib.hid (fun m hm => by
            by_cases e : m = n
            · subst e; exact idx_none' (fun j y hj hy => Hni.out j y (by rw [Hm.out]; exact hj) hy)
            · exact Hno.out m (by omega))
          go_wp2
          go_round
          case rel => exact ⟨n + 1, by omega, by go_num, HN.out⟩
          case measure => simp [intOf]; omega
    · obtain rfl : n = 4 := by omega
      go_wp2
      go_ret2
      exact Lib.hid (has15_mk_no Hno.out)
end Go.Proofs.Ytjefpogeknbelaa.Tithe
