/- Snapshot, Release: walked. -/
import Derived.Test.YtbnodgoccmhjkaaFlatState
namespace Go.Proofs.Ytbnodgoccmhjkaa.Tithe
open Go.RowKit Go.Sort Go.Shelf
set_option linter.unusedVariables false
set_option linter.unusedSimpArgs false
set_option maxRecDepth 100000
section
variable {W W' : World} {lo base mb : Nat} {most : Int} {rows : List Wr} {sm im hd : Nat} {S : Int → Option Int} {zs : Nat} {P : Int → Option Nat} {zi : Nat} {L : Nat → List Bo} {A : Nat → Int}
/-- one cell of the model's block is written -/
theorem IsMo.set5 (h : IsMo W base mb most rows sm im hd) (hd' : Int) : IsMo (W.setCell ⟨mb, 5, none⟩ (.int .i64 hd')) base mb most rows sm im hd' := by
  obtain ⟨a, c, h1, h2⟩ := h.ex
  exact ⟨⟨a, c, (blk_set h1).trans rfl, h2.far h.lt⟩, h.lt, by rw [World.size_setCell]; exact h.le⟩
end
attribute [local go_sem] Oper.semAt_some
set_option maxHeartbeats 1600000 in
theorem snap_no {W : World} {lo base mb : Nat} {most : Int} {rows : List Wr} {sm im hd : Nat} {S : Int → Option Int} {zs : Nat} {P : Int → Option Nat} {zi : Nat} {L : Nat → List Bo} {A : Nat → Int} (h : MS W lo base mb most rows sm im hd S zs P zi L A) (hz : 4 ≤ zs) :
    Calls Try.prog 18 #[.pointer (some ⟨mb, 0, none⟩)] W fun e W' => e = .returned (.tuple #[.int .i64 0, .int .i64 202]) ∧ W = W' := by
  obtain ⟨a, c, hB, -⟩ := h.mo.ex
  have m3 := (cell_of_blk hB 3).trans (show _ = some (.map (some sm)) from rfl)
  have hlen : (Builtin.len_ #[60] 3 #[.map (some sm)]).run Try.prog W = .ok (.int .i64 zs) W := h.sn.len 3
  have hz2 : (4 : Int) ≤ (zs : Int) := by omega
  clear h hB
  go_enter Try.func18, Try.ntmps18
  go_wp2_with fail
  go_ret2
  exact ⟨rfl, rfl⟩
set_option maxHeartbeats 3200000 in
theorem snap_yes {W : World} {lo base mb : Nat} {most : Int} {rows : List Wr} {sm im hd : Nat} {S : Int → Option Int} {zs : Nat} {P : Int → Option Nat} {zi : Nat} {L : Nat → List Bo} {A : Nat → Int} (h : MS W lo base mb most rows sm im hd S zs P zi L A) (hz : zs < 4) (hh : hd ≤ 100000) (hr : rows.length ≤ 1000000) :
    Calls Try.prog 18 #[.pointer (some ⟨mb, 0, none⟩)] W fun e W' => e = .returned (.tuple #[.int .i64 ((hd + 1 : Nat) : Int), .int .i64 0]) ∧ Hid (MS W' lo base mb most rows sm im (hd + 1) (updF S ((hd + 1 : Nat) : Int) (some (rows.length : Int))) (zs + 1) P zi L A ∧ KeepN sm im W W' ∧ Below lo W W') := by
  have H := Lib.hid h
  obtain ⟨a, c, hB, -⟩ := h.mo.ex
  have HB := Lib.hid hB
  have m3 := (cell_of_blk hB 3).trans (show _ = some (.map (some sm)) from rfl)
  have m5 := (cell_of_blk hB 5).trans (show _ = some (.int .i64 (hd : Int)) from rfl)
  have z5 := frozen_of_blk hB 5
  have hlen : (Builtin.len_ #[60] 3 #[.map (some sm)]).run Try.prog W = .ok (.int .i64 zs) W := h.sn.len 3
  have hz2 : ¬ (4 : Int) ≤ (zs : Int) := by omega
  have hws : IntKind.i64.wrap ((hd : Int) + 1) = ((hd + 1 : Nat) : Int) := (IntWalk.i64_in _ (by omega)).trans (by omega)
  clear h hB
  go_enter Try.func18, Try.ntmps18
  go_upto_region 4 with fail
  have HB1 : Hid ((W.setCell ⟨mb, 5, none⟩ (.int .i64 ((hd : Int) + 1))).heap[mb]? = some (.cells (moC most (lastN rows : Nat) (.slice a rows.length c) sm im ((hd : Int) + 1)) 78 (0, 0))) := Lib.hid ((blk_set HB.out).trans rfl)
  have HMo1 := Lib.hid (H.out.mo.set5 ((hd : Int) + 1))
  have hnes : sm ≠ mb := fun e => by
    obtain ⟨es, ck, hm⟩ := H.out.sn.map
    rw [e, HB.out] at hm
    cases hm
  have HS1 : Hid (OwnsF snT (W.setCell ⟨mb, 5, none⟩ (.int .i64 ((hd : Int) + 1))) sm S zs) := Lib.hid (H.out.sn.of_blk (Below.heap_setCell _ ⟨mb, 5, none⟩ _ sm hnes))
  have HKf : Hid (KeepN sm im W (W.setCell ⟨mb, 5, none⟩ (.int .i64 ((hd : Int) + 1)))) := Lib.hid (KeepN.of_keepM (KeepM.set HB.out))
  have HBl : Hid (Below lo W (W.setCell ⟨mb, 5, none⟩ (.int .i64 ((hd : Int) + 1)))) := Lib.hid ((Below.refl _ _).setCell (p := ⟨mb, 5, none⟩) H.out.lom _)
  have HKw : Hid (KeptTy 85 W (W.setCell ⟨mb, 5, none⟩ (.int .i64 ((hd : Int) + 1)))) := Lib.hid (KeptTy.set HB.out (by decide))
  have HKo : Hid (KeptTy 40 W (W.setCell ⟨mb, 5, none⟩ (.int .i64 ((hd : Int) + 1)))) := Lib.hid (KeptTy.set HB.out (by decide))
  have hnei : im ≠ mb := fun e => by
    obtain ⟨es, ck, hm⟩ := H.out.itr.map
    rw [e, HB.out] at hm
    cases hm
  have HKim : Hid ((W.setCell ⟨mb, 5, none⟩ (.int .i64 ((hd : Int) + 1))).heap[im]? = W.heap[im]?) := Lib.hid (Below.heap_setCell _ ⟨mb, 5, none⟩ _ im hnei)
  clear hnei
  generalize W.setCell ⟨mb, 5, none⟩ (.int .i64 ((hd : Int) + 1)) = W1 at *
  have n3 := (cell_of_blk HB1.out 3).trans (show _ = some (.map (some sm)) from rfl)
  have n5 := (cell_of_blk HB1.out 5).trans (show _ = some (.int .i64 ((hd : Int) + 1)) from rfl)
  have n2 := (cell_of_blk HB1.out 2).trans (show _ = some (.slice a rows.length c) from rfl)
  clear m3 m5 z5 hlen hws hnes
  have hsn : S ((hd : Int) + 1) = none := by
    cases q : S ((hd : Int) + 1) with
    | none => rfl
    | some m => have := H.out.sh _ _ q; omega
  obtain ⟨W2, hput, hS2, hg2⟩ := (show OwnsF snT W1.drew sm S zs from HS1.out.of_blk rfl).put ((hd : Int) + 1) (rows.length : Int) (WalkArith.wf_i64 (by omega)) (WalkArith.wf_i64 (by omega)) (by unfold maxLen; omega)
  rw [hsn] at hS2
  have hS2' : OwnsF snT W2 sm (updF S ((hd : Int) + 1) (some (rows.length : Int))) (zs + 1) := hS2
  have hmap := HS1.out.map
  have hg2' : W1.grownBy W2 (some sm) := ⟨hg2.os, hg2.tape, hg2.output, hg2.size, hg2.block⟩
  have hbl2 : Below lo W W2 := HBl.out.trans (grown_below hg2' H.out.los (by have := H.out.los; have := HS1.out.lt; omega))
  have hmo2 := HMo1.out.ty (KeptTy.map hg2' hmap) (KeptTy.map hg2' hmap) (KeptTy.map hg2' hmap) hg2'.size
  have hke2 := HKf.out.trans (KeepN.map (im := im) hg2' hmap (.inl rfl))
  have hit2 : OwnsF itT W2 im P zi := (H.out.itr.of_blk (HKim.out)).other hg2' (fun e => H.out.ne (by injection e))
  have hwk2 : ∀ h b, P h = some b → WalkAt W2 b (L b) (A b) ∧ lo ≤ b ∧ h ≤ ((hd + 1 : Nat) : Int) := fun q b hq => by
    obtain ⟨g1, g2, g3⟩ := H.out.wk q b hq
    exact ⟨((g1.ty HKw.out HKo.out).ty (KeptTy.map hg2' hmap) (KeptTy.map hg2' hmap)), g2, by omega⟩
  have hsh2 : ∀ h n, updF S ((hd : Int) + 1) (some (rows.length : Int)) h = some n → h ≤ ((hd + 1 : Nat) : Int) := fun q n hq => by
    unfold updF at hq
    split at hq
    · omega
    · have := H.out.sh q n hq; omega
  have HMS2 : Hid (MS W2 lo base mb most rows sm im (hd + 1) (updF S ((hd + 1 : Nat) : Int) (some (rows.length : Int))) (zs + 1) P zi L A) := Lib.hid ⟨hmo2, hS2', hit2, H.out.ne, H.out.los, H.out.loi, H.out.lom, hwk2, hsh2, H.out.inj⟩
  have Hke2 := Lib.hid hke2
  have Hbl2 := Lib.hid hbl2
  have k5 : W2.cell? ⟨mb, 5, none⟩ = some (.int .i64 ((hd : Int) + 1)) := (cell_of_blk (hmo2.ex.choose_spec.choose_spec.1) 5).trans rfl
  clear hsn hS2 hS2' hmap hg2 hg2' hbl2 hmo2 hke2 hit2 hwk2 hsh2 HKw HKo HKim
  go_still_tail 13, (by kernel_rfl)
  change wpList _ _ _ _ _ W1.drew
  refine wpList_mapput rfl _ _ _ _ rfl rfl rfl rfl hput ?_
  clear hput n2 n3 n5
  go_wp2_with fail
  go_ret2
  exact ⟨rfl, Lib.hid ⟨HMS2.out, Hke2.out, Hbl2.out⟩⟩
end Go.Proofs.Ytbnodgoccmhjkaa.Tithe
