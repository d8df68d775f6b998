/- OnesCount8, Set, Probes, Bytes, New, Parse. -/
import Derived.Test.YtkdipflmmlnbpaaDoorBloomHas
import Derived.Deep.RegionHeld3
namespace Go.Proofs.YtkdipflmmlnbpaaDoor.Tithe
open Go.RowKit Go.Sort Go.Shelf
set_option linter.unusedVariables false
def tab8 : ByteArray := ⟨#[0, 1, 1, 2, 1, 2, 2, 3, 1, 2, 2, 3, 2, 3, 3, 4, 1, 2, 2, 3, 2, 3, 3, 4, 2, 3, 3, 4, 3, 4, 4, 5, 1, 2, 2, 3, 2, 3, 3, 4, 2, 3, 3, 4, 3, 4, 4, 5, 2, 3, 3, 4, 3, 4, 4, 5, 3, 4, 4, 5, 4, 5, 5, 6, 1, 2, 2, 3, 2, 3, 3, 4, 2, 3, 3, 4, 3, 4, 4, 5, 2, 3, 3, 4, 3, 4, 4, 5, 3, 4, 4, 5, 4, 5, 5, 6, 2, 3, 3, 4, 3, 4, 4, 5, 3, 4, 4, 5, 4, 5, 5, 6, 3, 4, 4, 5, 4, 5, 5, 6, 4, 5, 5, 6, 5, 6, 6, 7, 1, 2, 2, 3, 2, 3, 3, 4, 2, 3, 3, 4, 3, 4, 4, 5, 2, 3, 3, 4, 3, 4, 4, 5, 3, 4, 4, 5, 4, 5, 5, 6, 2, 3, 3, 4, 3, 4, 4, 5, 3, 4, 4, 5, 4, 5, 5, 6, 3, 4, 4, 5, 4, 5, 5, 6, 4, 5, 5, 6, 5, 6, 6, 7, 2, 3, 3, 4, 3, 4, 4, 5, 3, 4, 4, 5, 4, 5, 5, 6, 3, 4, 4, 5, 4, 5, 5, 6, 4, 5, 5, 6, 5, 6, 6, 7, 3, 4, 4, 5, 4, 5, 5, 6, 4, 5, 5, 6, 5, 6, 6, 7, 4, 5, 5, 6, 5, 6, 6, 7, 5, 6, 6, 7, 6, 7, 7, 8]⟩
set_option maxRecDepth 100000 in
theorem tab8_pop : ∀ y : Fin 256, (tab8.data[y.1]?.getD 0).toNat = popB y.1 := by decide +kernel
set_option maxRecDepth 100000 in
theorem ones_any (x : Nat) (hx : x < 256) (w : World) :
    Calls Tryd.prog 28 #[.int .u8 x] w fun e w' => e = .returned (.int .i64 (popB x : Nat)) ∧ w = w' := by
  go_enter Tryd.func28, Tryd.ntmps28
  go_wp2
  go_ret
  refine ⟨?_, rfl⟩
  have h : (tab8.data[x]?.getD 0).toNat = popB x := tab8_pop ⟨x, hx⟩
  have e : ∀ u : UInt8, u = tab8.data[x]?.getD 0 → Ending.returned (.int .i64 (wrap64 (u.toNat : Int))) = .returned (.int .i64 ((popB x : Nat) : Int)) := by
    rintro u rfl
    have h2 : popB x ≤ 8 := popB_le x
    rw [h, IntWalk.wrap64_in _ ⟨by omega, by omega⟩]
  refine e _ ?_
  have hs : x < tab8.data.size := by rw [show tab8.data.size = 256 from by decide +kernel]; exact hx
  rw [Array.getElem?_eq_getElem hs]
  rfl
theorem probes_any (fb gb cap : Nat) (bs : List Nat) (p : Nat) (w : World) (hf : IsFilter w fb gb cap bs p) :
    Calls Tryd.prog 20 #[.pointer (some ⟨fb, 0, none⟩)] w fun e w' => e = .returned (.int .i64 p) ∧ w = w' := by
  have c1 : w.cell? ⟨fb, 1, none⟩ = some (.int .i64 p) := by rw [cell_of_blk hf.blk]; rfl
  clear hf
  go_enter Tryd.func20, Tryd.ntmps20
  go_wp2
  go_ret
  exact ⟨rfl, rfl⟩
theorem popL_take (bs : List Nat) (k : Nat) (hk : k < bs.length) : popL (bs.take (k + 1)) = popL (bs.take k) + popB (bs.getD k 0) := by
  rw [List.take_succ_eq_append_getElem hk, List.getD_eq_getElem?_getD, List.getElem?_eq_getElem hk]
  simp only [popL, List.map_append, List.sum_append, List.map_cons, List.map_nil, List.sum_cons, List.sum_nil, Option.getD_some]
  omega
theorem set_any (fb gb cap : Nat) (bs : List Nat) (p : Nat) (w : World) (hf : IsFilter w fb gb cap bs p) :
    Calls Tryd.prog 13 #[.pointer (some ⟨fb, 0, none⟩)] w fun e w' => e = .returned (.int .i64 (popL bs : Nat)) ∧ w = w' := by
  have c0 : w.cell? ⟨fb, 0, none⟩ = some (.slice (some ⟨gb, 0, none⟩) bs.length cap) := by rw [cell_of_blk hf.blk]; rfl
  have hm := hf.most
  have Hb8 := Lib.hid hf.b8
  have Hc : Hid (∀ k, k < bs.length → w.cell? ⟨gb, k, none⟩ = some (.int .u8 (bs.getD k 0 : Nat))) := by
    intro k hk
    rw [hf.own.cellAt k (by omega), cellsOfL, List.getElem?_map, List.getElem?_eq_getElem hk, List.getD_eq_getElem?_getD, List.getElem?_eq_getElem hk]; rfl
  clear hf
  go_enter Tryd.func13, Tryd.ntmps13
  go_wp2
  go_loop [3, 11] (fun s i => ∃ k : Nat, k ≤ bs.length ∧ i = .int .i64 k ∧ s = .int .i64 (popL (bs.take k) : Nat)) (fun _ i => bs.length - (intOf i).toNat)
  case atStart => exact ⟨0, Nat.zero_le _, rfl, by simp [popL]⟩
  case round =>
    obtain ⟨k, hk, rfl, rfl⟩ := hrel
    have hs : popL (bs.take k) ≤ 16777216 := Nat.le_trans (popL_le _) (by simp; omega)
    by_cases hlt : k < bs.length
    · have hx := Hc.out k hlt
      have hx8 := getD_byte Hb8.out k
      have Hst := Lib.hid (popL_take bs k hlt)
      have hp8 := popB_le (bs.getD k 0)
      have hone := Lib.hid (ones_any (bs.getD k 0) hx8 w)
      generalize bs.getD k 0 = x at *
      generalize popL (bs.take k) = s at *
      generalize popB x = q at *
      go_wp2_with ((with_reducible refine hone.out.mono ?_); rintro e w' ⟨rfl, rfl⟩)
      go_round
      case rel => exact ⟨k + 1, by omega, by go_num, by rw [Hst.out]; go_num⟩
      case measure => simp [intOf]; omega
    · obtain rfl : k = bs.length := by omega
      go_wp2
      go_ret
      exact ⟨rfl, rfl⟩
end Go.Proofs.YtkdipflmmlnbpaaDoor.Tithe
