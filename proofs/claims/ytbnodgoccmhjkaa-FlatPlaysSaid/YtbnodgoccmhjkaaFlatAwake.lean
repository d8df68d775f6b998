/- Chapter 21's awake: walked. -/
import Derived.Test.YtbnodgoccmhjkaaFlatGet
namespace Go.Proofs.Ytbnodgoccmhjkaa.Tithe
open Go.RowKit Go.Sort Go.Shelf
set_option linter.unusedVariables false
set_option linter.unusedSimpArgs false
set_option maxRecDepth 100000
def awO : Bo := ⟨1, ⟨#[97]⟩, ⟨#[120]⟩⟩
theorem aw_chk : chkM 1000 ((lastN [] : Nat) : Int) [awO] = 0 := by decide +kernel
theorem aw_small : ∀ x ∈ [awO], x.u.size ≤ 200 ∧ x.v.size ≤ 500 := by
  intro x hx
  rw [List.mem_singleton.1 hx]
  decide
theorem aw_flat (val : Value) : flatO ([] ++ [(val, [awO])]) (min (((([] ++ [(val, [awO])] : List Wr).length : Nat) : Int)).toNat ([] ++ [(val, [awO])] : List Wr).length) = [awO] := rfl
theorem aw_find : foldF [awO] (⟨#[97]⟩ : ByteArray) = some ⟨#[120]⟩ := by decide +kernel
theorem flatO_all (rows : List Wr) : flatO rows (min ((rows.length : Nat) : Int).toNat rows.length) = (opsOf rows).flatten := by
  unfold flatO
  rw [Int.toNat_natCast, Nat.min_self, List.take_of_length_le (by rw [opsOf_len]; exact Nat.le_refl _)]
attribute [local go_sem] Oper.semAt_some
set_option maxHeartbeats 3200000 in
theorem awake21_any (w : World) : Calls Try.prog 8 #[] w fun e w' => e = .returned (.bool true) ∧ Below w.heap.size w w' := by
  have Hnew := Lib.hid (mnew_any 1000 w)
  go_enter Try.func8, Try.ntmps8
  go_wp2_with fail
  refine Hnew.out.mono ?_
  rintro e w1 ⟨rfl, hM, hS, hI, hb1, hs1⟩
  obtain ⟨mb, hmb⟩ : ∃ q, q = w.heap.size + 2 := ⟨_, rfl⟩
  obtain ⟨w0s, hw0s⟩ : ∃ q, q = w.heap.size := ⟨_, rfl⟩
  rw [← hmb] at hM ⊢
  have Hos : Hid (IsOs (w1.alloc (.cells #[.int .i64 1, .string ⟨#[97]⟩, .string ⟨#[120]⟩] 40)) (.slice (some ⟨w1.heap.size, 0, none⟩) 1 1) [awO]) := Lib.hid (isSl_lit bo_len [awO] _ _ _ rfl rfl 1 rfl (by decide))
  have HMo : Hid (IsMo (w1.alloc (.cells #[.int .i64 1, .string ⟨#[97]⟩, .string ⟨#[120]⟩] 40)) (mb + 1) mb 1000 [] w.heap.size (w.heap.size + 1) 0) := Lib.hid ⟨⟨none, 0, blk_old hM _, World.ownsRow_nil _ _ _ _, fun r hr => by cases hr⟩, by omega, by rw [World.size_alloc]; omega⟩
  have HbA := Lib.hid (hb1.alloc hb1.size (.cells #[.int .i64 1, .string ⟨#[97]⟩, .string ⟨#[120]⟩] 40))
  have Hmb : Hid (w.heap.size ≤ mb) := Lib.hid (by omega)
  clear hM hS hI hb1 hs1 hmb hw0s
  go_wp2_with (go_at_call 20; refine (mwrite_any _ (mb + 1) mb 1000 [] w.heap.size (w.heap.size + 1) 0 _ [awO] HMo.out Hos.out aw_small (by decide) (by decide) (by decide)).mono ?_; intro e w3 h3; rw [aw_chk] at h3; obtain ⟨rfl, h4, -, h5, -⟩ := h3.out; obtain ⟨val, h6⟩ := h4 rfl; have HMo3 := Lib.hid h6; have Hb3 := Lib.hid (HbA.out.trans (h5.mono Hmb.out)); clear h3 h4 h5 h6 HMo Hos HbA Hmb)
  obtain ⟨a, c, hB, hO⟩ := HMo3.out.ex
  have hat := at0_any w3 mb 1000 _ a _ c _ _ 0 hB
  have hg := get_yes mb ⟨#[97]⟩ 0 _ 1000 _ a c _ _ _ 0 w3 hB hO.isWs (by simp) (by rw [aw_flat]; decide) (by rw [aw_flat]; intro x hx; have := aw_small x hx; omega) (by decide) hat
  rw [aw_flat, aw_find] at hg
  have Hg := Lib.hid hg
  clear hB hO hat hg
  go_wp2_with fail
  refine Hg.out.mono ?_
  rintro e w4 ⟨rfl, hb4⟩
  have HMo4 := HMo3.out.bel hb4
  obtain ⟨a, c, hB, hO⟩ := HMo4.ex
  have Hb4 := Lib.hid (Hb3.out.trans (hb4.mono Hb3.out.size))
  have Hw := Lib.hid (mwrites_any w4 mb 1000 _ a _ c _ _ 0 hB)
  have Hl := Lib.hid (mlast_any w4 mb 1000 _ _ _ _ 0 hB)
  clear hb4 HMo4 hB hO Hg Hb3
  have e1 : errG (some (⟨#[120]⟩ : ByteArray)) = 0 := rfl
  have e2 : valG (some (⟨#[120]⟩ : ByteArray)) = ⟨#[120]⟩ := rfl
  rw [e1, e2]
  clear e1 e2
  go_wp2_with (first | (go_at_call 16; refine Hw.out.mono ?_; rintro e w' ⟨rfl, rfl⟩) | (go_at_call 25; refine Hl.out.mono ?_; rintro e w' ⟨rfl, rfl⟩))
  go_ret
  exact ⟨rfl, Hb4.out⟩
end Go.Proofs.Ytbnodgoccmhjkaa.Tithe
