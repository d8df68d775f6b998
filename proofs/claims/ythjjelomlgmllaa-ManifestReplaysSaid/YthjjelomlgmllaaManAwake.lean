/- law16's awake: walked (printed by mkmanaw.py). -/
import Derived.Test.YthjjelomlgmllaaManRep
import Derived.Test.YthjjelomlgmllaaManRec
namespace Go.Proofs.Ythjjelomlgmllaa.Tithe
open Go.RowKit Go.Sort Go.Shelf
set_option linter.unusedVariables false
set_option linter.unusedSimpArgs false
set_option maxRecDepth 100000
theorem aw16_ok : recOk ⟨false, 5, [3], [], []⟩ = true := by decide
theorem aw16_enc : encR ⟨false, 5, [3], [], []⟩ = [0, 5, 1, 3, 0, 0] := by decide
theorem aw16_rep : ∃ L', replP Sp.nil [[0, 5, 1, 3, 0, 0]] = some ⟨L', 5, [3]⟩ := ⟨_, rfl⟩
theorem aw16_str : strOf [0, 5, 1, 3, 0, 0] = ⟨#[0, 5, 1, 3, 0, 0]⟩ := by decide
attribute [local go_sem] Oper.semAt_some
set_option maxHeartbeats 3200000 in
theorem awake16_any (w : World) : Calls Try.prog 10 #[] w fun e w' => e = .returned (.bool true) ∧ Below w.heap.size w w' := by
  have hA : Below w.heap.size w (w.alloc (.cells #[.int .i64 3] 3)) := (Below.refl _ _).alloc (Nat.le_refl _) _
  have hz : IsZs (w.alloc (.cells #[.int .i64 3] 3)) (.slice (some ⟨w.heap.size, 0, none⟩) 1 1) [3] := isSl_lit zzC_len [3] #[.int .i64 3] 3 w.heap.size rfl rfl 1 rfl (by unfold maxLen; omega)
  have hrb := recbytes_any false 5 (.slice (some ⟨w.heap.size, 0, none⟩) 1 1) (.slice none 0 0) (.slice none 0 0) [3] [] [] _ hz (isSl_nil _ _ _ _ _ (by unfold maxLen; omega)) ⟨isSl_nil _ _ _ _ _ (by unfold maxLen; omega), fun p hp => by cases hp⟩ (Nat.zero_le _) (fun p hp => by cases hp)
  have Hrb := Lib.hid hrb
  have HA := Lib.hid hA
  clear hA hz hrb
  go_enter Try.func10, Try.ntmps10
  go_wp2_with fail
  generalize w.alloc (.cells #[.int .i64 3] 3) = W at *
  refine Hrb.out.mono ?_
  rintro e w1 ⟨hc, hb1⟩
  rcases hc with ⟨hno, -⟩ | ⟨-, bv, rfl, ho⟩
  · rw [aw16_ok] at hno; cases hno
  rw [aw16_enc] at ho
  have hB1 := HA.out.trans (hb1.mono HA.out.size)
  obtain ⟨ba, bc, rfl⟩ := own_slice (show w1.ownsRow W.heap.size 5 1 bv 6 _ from ho)
  have hA2 : Below w1.heap.size w1 (w1.alloc (.cells #[.slice ba 6 bc] 34)) := (Below.refl _ _).alloc (Nat.le_refl _) _
  have ho2 := own_below ho hA2
  have hbb : IsBB (w1.alloc (.cells #[.slice ba 6 bc] 34)) (.slice (some ⟨w1.heap.size, 0, none⟩) 1 1) [(.slice ba 6 bc, [0, 5, 1, 3, 0, 0])] := by
    refine ⟨isSl_lit bbC_len _ #[.slice ba 6 bc] 34 w1.heap.size rfl rfl 1 rfl (by unfold maxLen; omega), fun p hp => ?_⟩
    obtain rfl := List.mem_singleton.1 hp
    exact ⟨isSl_own byteC_len ho2, (show ∀ x ∈ [0, 5, 1, 3, 0, 0], x < 256 by decide), (show [0, 5, 1, 3, 0, 0].length ≤ 100000 by decide)⟩
  obtain ⟨L', hrep⟩ := aw16_rep
  have hre := mreplay_any _ _ ⟨L', 5, [3]⟩ _ hbb hrep
  have Hre := Lib.hid hre
  have HO2 := Lib.hid ho2
  have HB2 := Lib.hid (hB1.trans (hA2.mono hB1.size))
  clear hb1 ho hB1 hA2 ho2 hbb hrep hre Hrb HA
  go_wp2_with fail
  generalize w1.alloc (.cells #[.slice ba 6 bc] 34) = W2 at *
  refine Hre.out.mono ?_
  rintro e w3 ⟨U, vl, rfl, hU, -, hz, hb3⟩
  obtain ⟨fa0, fn0, fc0, fa1, fn1, fc1, fa2, fn2, fc2, fa3, fn3, fc3, e0, e1, e2, e3⟩ := vn_slices hU
  obtain ⟨za, zc, rfl⟩ := own_slice (show w3.ownsRow W2.heap.size 3 1 vl 1 _ from hz)
  rw [e0, e1, e2, e3]
  have hA4 : Below w3.heap.size w3 (w3.alloc (.cells #[.slice fa0 fn0 fc0, .slice fa1 fn1 fc1, .slice fa2 fn2 fc2, .slice fa3 fn3 fc3, .int .i64 5, .slice za 1 zc] 63)) := (Below.refl _ _).alloc (Nat.le_refl _) _
  have hS := blk_of_alloc w3 (.cells #[.slice fa0 fn0 fc0, .slice fa1 fn1 fc1, .slice fa2 fn2 fc2, .slice fa3 fn3 fc3, .int .i64 5, .slice za 1 zc] 63)
  have ho4 := own_below (own_below HO2.out hb3) hA4
  have hcv := conv_own (l := [0, 5, 1, 3, 0, 0]) ho4 (by decide)
  rw [aw16_str] at hcv
  have HB4 := Lib.hid (HB2.out.trans ((hb3.trans (hA4.mono hb3.size)).mono HB2.out.size))
  have Hcv := Lib.hid hcv
  have HS := Lib.hid hS
  obtain ⟨sb, hsb⟩ : ∃ q, q = w3.heap.size := ⟨_, rfl⟩
  have Hsb := Lib.hid hsb
  rw [← hsb] at HS
  clear hU hz hb3 e0 e1 e2 e3 hA4 hS ho4 hcv hsb Hre HO2 HB2
  go_upto_region 3 with fail
  rw [← Hsb.out]
  generalize w3.alloc (.cells #[.slice fa0 fn0 fc0, .slice fa1 fn1 fc1, .slice fa2 fn2 fc2, .slice fa3 fn3 fc3, .int .i64 5, .slice za 1 zc] 63) = W4 at *
  have c4 : W4.cell? ⟨sb, 4, none⟩ = some (.int .i64 5) := by rw [cell_blkR HS.out]; rfl
  have c5 : W4.cell? ⟨sb, 5, none⟩ = some (.slice za 1 zc) := by rw [cell_blkR HS.out]; rfl
  have hcv := Hcv.out
  go_wp2_with fail
  go_ret
  exact ⟨rfl, HB4.out⟩
end Go.Proofs.Ythjjelomlgmllaa.Tithe
