/- The fixed answer of chapter 15: walked. -/
import Derived.Test.YtjefpogeknbelaaLevAwP
import Derived.Test.YtjefpogeknbelaaLevApply
import Derived.Test.YtjefpogeknbelaaLevRef
import Derived.Deep.RegionHeld3
namespace Go.Proofs.Ytjefpogeknbelaa.Tithe
open Go.RowKit Go.Sort Go.Shelf
set_option linter.unusedVariables false
set_option linter.unusedSimpArgs false
set_option maxRecDepth 100000
theorem aw_out {w w' : World} {e : Ending} {v : Value} (h : ApOut w Vn.none [] (psM [(1, (aw3, v))]) e w') : ∃ U : Vn, e = .returned (.tuple #[.agg U.cells, .int .i64 0]) ∧ OwnVn w' w.heap.size U ∧ (lvOf U.l 0 = [] ∧ lvOf U.l 1 = [aw3] ∧ lvOf U.l 2 = [] ∧ lvOf U.l 3 = []) ∧ Below w.heap.size w w' := by
  obtain ⟨L', h0, l0, l1, l2, l3⟩ := aw_apply
  unfold ApOut at h
  rw [show psM [(1, (aw3, v))] = [(1, aw3)] from rfl, h0] at h
  obtain ⟨U, he, ho, hu, hb⟩ := h
  exact ⟨U, he, ho, ⟨(hu 0 (by omega)).trans l0, (hu 1 (by omega)).trans l1, (hu 2 (by omega)).trans l2, (hu 3 (by omega)).trans l3⟩, hb⟩
/-- at the call of Apply -/
theorem aw_call (X : World) : Calls Try.prog 17 #[.agg #[.slice none 0 0, .slice none 0 0, .slice none 0 0, .slice none 0 0], .agg #[.slice (some ⟨X.heap.size, 0, none⟩) 1 1, .slice none 0 0]] (X.alloc (.cells #[.int .i64 1, .int .i64 3, .int .i64 1, .string ⟨#[97]⟩, .int .i64 2, .int .i64 1, .string ⟨#[99]⟩, .int .i64 1, .int .i64 1, .slice none 0 0] 78)) fun e w' => Hid (∃ U : Vn, e = .returned (.tuple #[.agg U.cells, .int .i64 0]) ∧ OwnVn w' (X.alloc (.cells #[.int .i64 1, .int .i64 3, .int .i64 1, .string ⟨#[97]⟩, .int .i64 2, .int .i64 1, .string ⟨#[99]⟩, .int .i64 1, .int .i64 1, .slice none 0 0] 78)).heap.size U ∧ (lvOf U.l 0 = [] ∧ lvOf U.l 1 = [aw3] ∧ lvOf U.l 2 = [] ∧ lvOf U.l 3 = []) ∧ Below (X.alloc (.cells #[.int .i64 1, .int .i64 3, .int .i64 1, .string ⟨#[97]⟩, .int .i64 2, .int .i64 1, .string ⟨#[99]⟩, .int .i64 1, .int .i64 1, .slice none 0 0] 78)).heap.size (X.alloc (.cells #[.int .i64 1, .int .i64 3, .int .i64 1, .string ⟨#[97]⟩, .int .i64 2, .int .i64 1, .string ⟨#[99]⟩, .int .i64 1, .int .i64 1, .slice none 0 0] 78)) w') := by
  have hp : IsPl (X.alloc (.cells #[.int .i64 1, .int .i64 3, .int .i64 1, .string ⟨#[97]⟩, .int .i64 2, .int .i64 1, .string ⟨#[99]⟩, .int .i64 1, .int .i64 1, .slice none 0 0] 78)) (.slice (some ⟨X.heap.size, 0, none⟩) 1 1) [(1, (aw3, .slice none 0 0))] := by
    refine ⟨isSl_lit plC_len [(1, (aw3, .slice none 0 0))] _ _ _ rfl rfl 1 rfl (by unfold maxLen; omega), fun p hp => ?_⟩
    rw [List.mem_singleton.1 hp]
    exact isSl_nil _ _ _ _ _ (by unfold maxLen; omega)
  have hvn : ∀ W, IsVn W Vn.none := fun W n hn => (OwnMs.nil W 0).isMr
  refine (vapply_any Vn.none _ _ [(1, (aw3, .slice none 0 0))] [] _ (hvn _) rfl (Nat.zero_le _) (fun p hp => by cases hp) hp (isSl_nil _ _ _ _ _ (by unfold maxLen; omega)) (by simp) (fun p hp => ?_)).mono ?_
  · rw [List.mem_singleton.1 hp]; exact Nat.zero_le _
  · intro e w' h
    exact Lib.hid (aw_out h.out)
def AwI (w : World) (U : Vn) (W : World) : Prop := W.heap[w.heap.size]? = some (.cells U.cells 48 (0, 0)) ∧ OwnVn W (w.heap.size + 1) U ∧ (lvOf U.l 0 = [] ∧ lvOf U.l 1 = [aw3] ∧ lvOf U.l 2 = [] ∧ lvOf U.l 3 = []) ∧ Below w.heap.size w W
theorem aw_end {w V : World} {U : Vn} (hw : Below w.heap.size w V) (hb : V.heap[w.heap.size]? = some (.cells Vn.none.cells 48 (0, 0))) (ho : OwnVn V (w.heap.size + 1) U) (hu : lvOf U.l 0 = [] ∧ lvOf U.l 1 = [aw3] ∧ lvOf U.l 2 = [] ∧ lvOf U.l 3 = []) : AwI w U ((((V.setCell ⟨w.heap.size, 0, none⟩ (U.v 0)).setCell ⟨w.heap.size, 1, none⟩ (U.v 1)).setCell ⟨w.heap.size, 2, none⟩ (U.v 2)).setCell ⟨w.heap.size, 3, none⟩ (U.v 3)) := by
  refine ⟨set4g rfl hb _ _ _ _, ?_, hu, ?_⟩
  · have f1 := ho.far (grown_set V w.heap.size 0 (U.v 0)) (fun r e => by cases e; omega)
    have f2 := f1.far (grown_set _ w.heap.size 1 (U.v 1)) (fun r e => by cases e; omega)
    have f3 := f2.far (grown_set _ w.heap.size 2 (U.v 2)) (fun r e => by cases e; omega)
    exact f3.far (grown_set _ w.heap.size 3 (U.v 3)) (fun r e => by cases e; omega)
  · exact (((hw.setCell (p := ⟨w.heap.size, 0, none⟩) (Nat.le_refl _) _).setCell (p := ⟨w.heap.size, 1, none⟩) (Nat.le_refl _) _).setCell (p := ⟨w.heap.size, 2, none⟩) (Nat.le_refl _) _).setCell (p := ⟨w.heap.size, 3, none⟩) (Nat.le_refl _) _
def ptabP (lv : Int) (sm lg : ByteArray) (p : Nat × Mt) : Bool := decide ((p.1 : Int) = lv) && (decide (cmpB sm lg ≤ 0) && (decide (cmpB p.2.a.u lg ≤ 0) && decide (cmpB sm p.2.b.u ≤ 0)))
theorem over_ptab (l : Nat → List Mr) (lv : Int) (sm lg : ByteArray) : ((tabs l 4).filter (overB lv sm lg)).map (·.2.1) = ((ptab l 4).filter (ptabP lv sm lg)).map (·.2) := by
  unfold ptab
  rw [List.filter_map, List.map_map]
  rfl
theorem aw_facts {U : Vn} (hu : lvOf U.l 0 = [] ∧ lvOf U.l 1 = [aw3] ∧ lvOf U.l 2 = [] ∧ lvOf U.l 3 = []) :
    hasT (tabs U.l 4) 3 = some 1 ∧ ((tabs U.l 4).filter (overB 1 ⟨#[98]⟩ ⟨#[98]⟩)).map (·.2.1) = [aw3] ∧ (tabs U.l 4).length ≤ 100000 ∧ ∀ p ∈ tabs U.l 4, p.2.1.refs.length ≤ 1000000 := by
  obtain ⟨h0, h1, h2, h3⟩ := hu
  have hpt : ptab U.l 4 = [(1, aw3)] := by
    rw [ptab_succ, ptab_succ, ptab_succ, ptab_succ, h0, h1, h2, h3]; rfl
  refine ⟨?_, ?_, ?_, ?_⟩
  · have hp : hasP (lvOf U.l) 3 = some (1, 0) := by
      unfold hasP
      simp only [hasF, h0, h1, h2, h3, Nat.zero_add, Nat.reduceAdd]
      rfl
    rcases hasF_tabs U.l 3 with ⟨h, -⟩ | ⟨n, i, -, h, ht, -⟩
    · rw [hp] at h; cases h
    · rw [hp] at h; cases h; exact ht
  · rw [over_ptab, hpt]; rfl
  · have := congrArg List.length hpt
    unfold ptab at this
    rw [List.length_map] at this
    rw [this]; simp
  · intro p hp
    have : (p.1, p.2.1) ∈ ptab U.l 4 := List.mem_map.2 ⟨p, hp, rfl⟩
    rw [hpt, List.mem_singleton] at this
    rw [show p.2.1 = aw3 from (Prod.ext_iff.1 this).2]
    exact Nat.zero_le _
set_option maxHeartbeats 1600000 in
theorem awake15_any (w : World) : Calls Try.prog 9 #[] w fun e w' => e = .returned (.bool true) ∧ Below w.heap.size w w' := by
  have hb0 : (w.alloc (.cells Vn.none.cells 48)).heap[w.heap.size]? = some (.cells Vn.none.cells 48 (0, 0)) := blk_of_alloc _ _
  have hbw : Below w.heap.size w (w.alloc (.cells Vn.none.cells 48)) := (Below.refl _ _).alloc (Nat.le_refl _) _
  have hsz : w.heap.size < (w.alloc (.cells Vn.none.cells 48)).heap.size := by simp
  go_enter Try.func9, Try.ntmps9
  go_upto_region 2 with fail
  unfold Vn.cells Vn.none at hb0 hbw hsz
  dsimp only at hb0 hbw hsz
  generalize w.alloc (.cells #[.slice none 0 0, .slice none 0 0, .slice none 0 0, .slice none 0 0] 48) = W at *
  have Hbw := Lib.hid hbw
  clear hbw
  go_cut [2] (fun ev wc => ev = .int .i64 0 ∧ ∃ U, AwI w U wc)
  case first =>
    have K0 := Lib.hid ((Below.refl W.heap.size W).drew)
    have hb0 : W.drew.heap[w.heap.size]? = _ := hb0
    refine wp_region_held_drew (S := fun _ => True) (by kernel_rfl) trivial (fun _ => ?_)
    refine wpAnyH_ready (rs := [0, 1]) (by kernel_rfl) (by simp) (AllReadyH.cons rfl (fun K hK => ?_) (AllReadyH.cons rfl (fun K hK => ?_) AllReadyH.nil))
    · have hl1 := fun j => cell_of_blk hb0 j
      go_simp
      clear hl1
      refine hK.out _ _ trivial (fun _ => ?_)
      clear hK K
      try simp only [Act.put, List.setIfInBounds_toArray, List.set_cons_zero, List.set_cons_succ]
      refine wpAnyH_ready (rs := [1]) (by kernel_rfl) (by simp) (AllReadyH.cons rfl (fun K hK => ?_) AllReadyH.nil)
      go_simp
      refine (key15_any _ _ _).mono ?_
      rintro e wv2 ⟨rfl, hv2⟩
      have hb2 := blk_bels hv2 hb0
      have K2 := Lib.hid (K0.out.trans (hv2.mono K0.out.size))
      clear hv2
      refine hK.out _ _ trivial (fun _ => ?_)
      clear hK K
      try simp only [Act.put, List.setIfInBounds_toArray, List.set_cons_zero, List.set_cons_succ]
      refine wpAnyH_ready (rs := [2]) (by kernel_rfl) (by simp) (AllReadyH.cons rfl (fun K hK => ?_) AllReadyH.nil)
      go_simp
      refine (key15_any _ _ _).mono ?_
      rintro e wv3 ⟨rfl, hv3⟩
      have hb3 := blk_bels hv3 hb2
      have K3 := Lib.hid (K2.out.trans (hv3.mono K2.out.size))
      clear hv3
      refine hK.out _ _ trivial (fun _ => ?_)
      clear hK K
      try simp only [Act.put, List.setIfInBounds_toArray, List.set_cons_zero, List.set_cons_succ]
      refine wpAnyH_take (i := 3) (v := ?_) rfl (by kernel_rfl) (by kernel_rfl) (by kernel_rfl) (fun _ _ _ h => h) (Or.inl ⟨by rfl, ?hy4⟩) trivial ?_
      case hy4 => (intro V hSw; clear hSw; go_simp; try with_reducible rfl)
      try simp only [Act.put, List.setIfInBounds_toArray, List.set_cons_zero, List.set_cons_succ]
      refine wpAnyH_take (i := 4) (v := ?_) rfl (by kernel_rfl) (by kernel_rfl) (by kernel_rfl) (fun _ _ _ h => h) (Or.inl ⟨by rfl, ?hy5⟩) trivial ?_
      case hy5 => (intro V hSw; clear hSw; go_simp; try with_reducible rfl)
      try simp only [Act.put, List.setIfInBounds_toArray, List.set_cons_zero, List.set_cons_succ]
      refine wpAnyH_ready (rs := [5]) (by kernel_rfl) (by simp) (AllReadyH.cons rfl (fun K hK => ?_) AllReadyH.nil)
      go_simp
      have hb6 := blk_old hb3 (.cells #[.int .i64 1, .int .i64 3, .int .i64 1, .string ⟨#[97]⟩, .int .i64 2, .int .i64 1, .string ⟨#[99]⟩, .int .i64 1, .int .i64 1, .slice none 0 0] 78)
      have K6 := Lib.hid (K3.out.alloc K3.out.size (.cells #[.int .i64 1, .int .i64 3, .int .i64 1, .string ⟨#[97]⟩, .int .i64 2, .int .i64 1, .string ⟨#[99]⟩, .int .i64 1, .int .i64 1, .slice none 0 0] 78))
      have hap6 := Lib.hid (aw_call wv3)
      refine hK.out _ _ trivial (fun _ => ?_)
      clear hK K
      try simp only [Act.put, List.setIfInBounds_toArray, List.set_cons_zero, List.set_cons_succ]
      refine wpAnyH_take (i := 6) (v := ?_) rfl (by kernel_rfl) (by kernel_rfl) (by kernel_rfl) (fun _ _ _ h => h) (Or.inl ⟨by rfl, ?hy7⟩) trivial ?_
      case hy7 => (intro V hSw; clear hSw; go_simp; try with_reducible rfl)
      try simp only [Act.put, List.setIfInBounds_toArray, List.set_cons_zero, List.set_cons_succ]
      refine wpAnyH_ready (rs := [7]) (by kernel_rfl) (by simp) (AllReadyH.cons rfl (fun K hK => ?_) AllReadyH.nil)
      go_simp
      refine (hap6.out).mono ?_
      rintro e wv8 hq8
      obtain ⟨U8, rfl, ho8, hu8, hv8⟩ := hq8.out
      have hb8 := blk_bels hv8 hb6
      have HF8 := Lib.hid (aw_end (U := U8) (Hbw.out.trans ((K6.out.trans (hv8.mono K6.out.size)).mono Hbw.out.size)) hb8 (ho8.mono (Nat.le_trans hsz K6.out.size)) hu8)
      obtain ⟨a0, n0, c0, a1, n1, c1, a2, n2, c2, a3, n3, c3, e0, e1, e2, e3⟩ := vn_slices ho8
      unfold Vn.cells at HF8 ⊢
      rw [e0, e1, e2, e3] at HF8 ⊢
      have hpc := fun j => cell_of_blk hb8 j
      have hpz := fun j => frozen_of_blk hb8 j
      clear hq8 ho8 hu8 hv8 e0 e1 e2 e3
      refine hK.out _ _ trivial (fun _ => ?_)
      clear hK K
      try simp only [Act.put, List.setIfInBounds_toArray, List.set_cons_zero, List.set_cons_succ]
      refine wpAnyH_take (i := 8) (v := ?_) rfl (by kernel_rfl) (by kernel_rfl) (by kernel_rfl) (fun _ _ _ h => h) (Or.inl ⟨by rfl, ?hy9⟩) trivial ?_
      case hy9 => (intro V hSw; clear hSw; go_simp; try with_reducible rfl)
      try simp only [Act.put, List.setIfInBounds_toArray, List.set_cons_zero, List.set_cons_succ]
      refine wpAnyH_take (i := 9) (v := ?_) rfl (by kernel_rfl) (by kernel_rfl) (by kernel_rfl) (fun _ _ _ h => h) (Or.inl ⟨by rfl, ?hy10⟩) trivial ?_
      case hy10 => (intro V hSw; clear hSw; go_simp; try with_reducible rfl)
      try simp only [Act.put, List.setIfInBounds_toArray, List.set_cons_zero, List.set_cons_succ]
      refine wpAnyH_take (i := 10) (v := ?_) rfl (by kernel_rfl) (by kernel_rfl) (by kernel_rfl) (fun _ _ _ h => h) (Or.inl ⟨by rfl, ?hy11⟩) trivial ?_
      case hy11 => (intro V hSw; clear hSw; go_simp; try with_reducible rfl)
      try simp only [Act.put, List.setIfInBounds_toArray, List.set_cons_zero, List.set_cons_succ]
      refine wpAnyH_ready (rs := [11]) (by kernel_rfl) (by simp) (AllReadyH.cons rfl (fun K hK => ?_) AllReadyH.nil)
      go_simp
      refine hK.out _ _ trivial (fun _ => ?_)
      clear hK K
      try simp only [Act.put, List.setIfInBounds_toArray, List.set_cons_zero, List.set_cons_succ]
      refine wpAnyH_ready (rs := [12]) (by kernel_rfl) (by simp) (AllReadyH.cons rfl (fun K hK => ?_) AllReadyH.nil)
      go_simp
      refine hK.out _ _ trivial (fun _ => ?_)
      clear hK K
      try simp only [Act.put, List.setIfInBounds_toArray, List.set_cons_zero, List.set_cons_succ]
      refine wpAnyH_done (by kernel_rfl) ?_ _
      go_wp2_with fail
      go_meet
      case rel => exact ⟨rfl, _, HF8.out⟩
    · go_simp
      refine (key15_any _ _ _).mono ?_
      rintro e wv12 ⟨rfl, hv12⟩
      have hb12 := blk_bels hv12 hb0
      have K12 := Lib.hid (K0.out.trans (hv12.mono K0.out.size))
      clear hv12
      refine hK.out _ _ trivial (fun _ => ?_)
      clear hK K
      try simp only [Act.put, List.setIfInBounds_toArray, List.set_cons_zero, List.set_cons_succ]
      refine wpAnyH_ready (rs := [0, 2]) (by kernel_rfl) (by simp) (AllReadyH.cons rfl (fun K hK => ?_) (AllReadyH.cons rfl (fun K hK => ?_) AllReadyH.nil))
      · have hl13 := fun j => cell_of_blk hb12 j
        go_simp
        clear hl13
        refine hK.out _ _ trivial (fun _ => ?_)
        clear hK K
        try simp only [Act.put, List.setIfInBounds_toArray, List.set_cons_zero, List.set_cons_succ]
        refine wpAnyH_ready (rs := [2]) (by kernel_rfl) (by simp) (AllReadyH.cons rfl (fun K hK => ?_) AllReadyH.nil)
        go_simp
        refine (key15_any _ _ _).mono ?_
        rintro e wv14 ⟨rfl, hv14⟩
        have hb14 := blk_bels hv14 hb12
        have K14 := Lib.hid (K12.out.trans (hv14.mono K12.out.size))
        clear hv14
        refine hK.out _ _ trivial (fun _ => ?_)
        clear hK K
        try simp only [Act.put, List.setIfInBounds_toArray, List.set_cons_zero, List.set_cons_succ]
        refine wpAnyH_take (i := 3) (v := ?_) rfl (by kernel_rfl) (by kernel_rfl) (by kernel_rfl) (fun _ _ _ h => h) (Or.inl ⟨by rfl, ?hy15⟩) trivial ?_
        case hy15 => (intro V hSw; clear hSw; go_simp; try with_reducible rfl)
        try simp only [Act.put, List.setIfInBounds_toArray, List.set_cons_zero, List.set_cons_succ]
        refine wpAnyH_take (i := 4) (v := ?_) rfl (by kernel_rfl) (by kernel_rfl) (by kernel_rfl) (fun _ _ _ h => h) (Or.inl ⟨by rfl, ?hy16⟩) trivial ?_
        case hy16 => (intro V hSw; clear hSw; go_simp; try with_reducible rfl)
        try simp only [Act.put, List.setIfInBounds_toArray, List.set_cons_zero, List.set_cons_succ]
        refine wpAnyH_ready (rs := [5]) (by kernel_rfl) (by simp) (AllReadyH.cons rfl (fun K hK => ?_) AllReadyH.nil)
        go_simp
        have hb17 := blk_old hb14 (.cells #[.int .i64 1, .int .i64 3, .int .i64 1, .string ⟨#[97]⟩, .int .i64 2, .int .i64 1, .string ⟨#[99]⟩, .int .i64 1, .int .i64 1, .slice none 0 0] 78)
        have K17 := Lib.hid (K14.out.alloc K14.out.size (.cells #[.int .i64 1, .int .i64 3, .int .i64 1, .string ⟨#[97]⟩, .int .i64 2, .int .i64 1, .string ⟨#[99]⟩, .int .i64 1, .int .i64 1, .slice none 0 0] 78))
        have hap17 := Lib.hid (aw_call wv14)
        refine hK.out _ _ trivial (fun _ => ?_)
        clear hK K
        try simp only [Act.put, List.setIfInBounds_toArray, List.set_cons_zero, List.set_cons_succ]
        refine wpAnyH_take (i := 6) (v := ?_) rfl (by kernel_rfl) (by kernel_rfl) (by kernel_rfl) (fun _ _ _ h => h) (Or.inl ⟨by rfl, ?hy18⟩) trivial ?_
        case hy18 => (intro V hSw; clear hSw; go_simp; try with_reducible rfl)
        try simp only [Act.put, List.setIfInBounds_toArray, List.set_cons_zero, List.set_cons_succ]
        refine wpAnyH_ready (rs := [7]) (by kernel_rfl) (by simp) (AllReadyH.cons rfl (fun K hK => ?_) AllReadyH.nil)
        go_simp
        refine (hap17.out).mono ?_
        rintro e wv19 hq19
        obtain ⟨U19, rfl, ho19, hu19, hv19⟩ := hq19.out
        have hb19 := blk_bels hv19 hb17
        have HF19 := Lib.hid (aw_end (U := U19) (Hbw.out.trans ((K17.out.trans (hv19.mono K17.out.size)).mono Hbw.out.size)) hb19 (ho19.mono (Nat.le_trans hsz K17.out.size)) hu19)
        obtain ⟨a0, n0, c0, a1, n1, c1, a2, n2, c2, a3, n3, c3, e0, e1, e2, e3⟩ := vn_slices ho19
        unfold Vn.cells at HF19 ⊢
        rw [e0, e1, e2, e3] at HF19 ⊢
        have hpc := fun j => cell_of_blk hb19 j
        have hpz := fun j => frozen_of_blk hb19 j
        clear hq19 ho19 hu19 hv19 e0 e1 e2 e3
        refine hK.out _ _ trivial (fun _ => ?_)
        clear hK K
        try simp only [Act.put, List.setIfInBounds_toArray, List.set_cons_zero, List.set_cons_succ]
        refine wpAnyH_take (i := 8) (v := ?_) rfl (by kernel_rfl) (by kernel_rfl) (by kernel_rfl) (fun _ _ _ h => h) (Or.inl ⟨by rfl, ?hy20⟩) trivial ?_
        case hy20 => (intro V hSw; clear hSw; go_simp; try with_reducible rfl)
        try simp only [Act.put, List.setIfInBounds_toArray, List.set_cons_zero, List.set_cons_succ]
        refine wpAnyH_take (i := 9) (v := ?_) rfl (by kernel_rfl) (by kernel_rfl) (by kernel_rfl) (fun _ _ _ h => h) (Or.inl ⟨by rfl, ?hy21⟩) trivial ?_
        case hy21 => (intro V hSw; clear hSw; go_simp; try with_reducible rfl)
        try simp only [Act.put, List.setIfInBounds_toArray, List.set_cons_zero, List.set_cons_succ]
        refine wpAnyH_take (i := 10) (v := ?_) rfl (by kernel_rfl) (by kernel_rfl) (by kernel_rfl) (fun _ _ _ h => h) (Or.inl ⟨by rfl, ?hy22⟩) trivial ?_
        case hy22 => (intro V hSw; clear hSw; go_simp; try with_reducible rfl)
        try simp only [Act.put, List.setIfInBounds_toArray, List.set_cons_zero, List.set_cons_succ]
        refine wpAnyH_ready (rs := [11]) (by kernel_rfl) (by simp) (AllReadyH.cons rfl (fun K hK => ?_) AllReadyH.nil)
        go_simp
        refine hK.out _ _ trivial (fun _ => ?_)
        clear hK K
        try simp only [Act.put, List.setIfInBounds_toArray, List.set_cons_zero, List.set_cons_succ]
        refine wpAnyH_ready (rs := [12]) (by kernel_rfl) (by simp) (AllReadyH.cons rfl (fun K hK => ?_) AllReadyH.nil)
        go_simp
        refine hK.out _ _ trivial (fun _ => ?_)
        clear hK K
        try simp only [Act.put, List.setIfInBounds_toArray, List.set_cons_zero, List.set_cons_succ]
        refine wpAnyH_done (by kernel_rfl) ?_ _
        go_wp2_with fail
        go_meet
        case rel => exact ⟨rfl, _, HF19.out⟩
      · go_simp
        refine (key15_any _ _ _).mono ?_
        rintro e wv23 ⟨rfl, hv23⟩
        have hb23 := blk_bels hv23 hb12
        have K23 := Lib.hid (K12.out.trans (hv23.mono K12.out.size))
        clear hv23
        refine hK.out _ _ trivial (fun _ => ?_)
        clear hK K
        try simp only [Act.put, List.setIfInBounds_toArray, List.set_cons_zero, List.set_cons_succ]
        refine wpAnyH_take (i := 3) (v := ?_) rfl (by kernel_rfl) (by kernel_rfl) (by kernel_rfl) (fun _ _ _ h => h) (Or.inl ⟨by rfl, ?hy24⟩) trivial ?_
        case hy24 => (intro V hSw; clear hSw; go_simp; try with_reducible rfl)
        try simp only [Act.put, List.setIfInBounds_toArray, List.set_cons_zero, List.set_cons_succ]
        refine wpAnyH_take (i := 4) (v := ?_) rfl (by kernel_rfl) (by kernel_rfl) (by kernel_rfl) (fun _ _ _ h => h) (Or.inl ⟨by rfl, ?hy25⟩) trivial ?_
        case hy25 => (intro V hSw; clear hSw; go_simp; try with_reducible rfl)
        try simp only [Act.put, List.setIfInBounds_toArray, List.set_cons_zero, List.set_cons_succ]
        refine wpAnyH_ready (rs := [0, 5]) (by kernel_rfl) (by simp) (AllReadyH.cons rfl (fun K hK => ?_) (AllReadyH.cons rfl (fun K hK => ?_) AllReadyH.nil))
        · have hl26 := fun j => cell_of_blk hb23 j
          go_simp
          clear hl26
          refine hK.out _ _ trivial (fun _ => ?_)
          clear hK K
          try simp only [Act.put, List.setIfInBounds_toArray, List.set_cons_zero, List.set_cons_succ]
          refine wpAnyH_ready (rs := [5]) (by kernel_rfl) (by simp) (AllReadyH.cons rfl (fun K hK => ?_) AllReadyH.nil)
          go_simp
          have hb27 := blk_old hb23 (.cells #[.int .i64 1, .int .i64 3, .int .i64 1, .string ⟨#[97]⟩, .int .i64 2, .int .i64 1, .string ⟨#[99]⟩, .int .i64 1, .int .i64 1, .slice none 0 0] 78)
          have K27 := Lib.hid (K23.out.alloc K23.out.size (.cells #[.int .i64 1, .int .i64 3, .int .i64 1, .string ⟨#[97]⟩, .int .i64 2, .int .i64 1, .string ⟨#[99]⟩, .int .i64 1, .int .i64 1, .slice none 0 0] 78))
          have hap27 := Lib.hid (aw_call wv23)
          refine hK.out _ _ trivial (fun _ => ?_)
          clear hK K
          try simp only [Act.put, List.setIfInBounds_toArray, List.set_cons_zero, List.set_cons_succ]
          refine wpAnyH_take (i := 6) (v := ?_) rfl (by kernel_rfl) (by kernel_rfl) (by kernel_rfl) (fun _ _ _ h => h) (Or.inl ⟨by rfl, ?hy28⟩) trivial ?_
          case hy28 => (intro V hSw; clear hSw; go_simp; try with_reducible rfl)
          try simp only [Act.put, List.setIfInBounds_toArray, List.set_cons_zero, List.set_cons_succ]
          refine wpAnyH_ready (rs := [7]) (by kernel_rfl) (by simp) (AllReadyH.cons rfl (fun K hK => ?_) AllReadyH.nil)
          go_simp
          refine (hap27.out).mono ?_
          rintro e wv29 hq29
          obtain ⟨U29, rfl, ho29, hu29, hv29⟩ := hq29.out
          have hb29 := blk_bels hv29 hb27
          have HF29 := Lib.hid (aw_end (U := U29) (Hbw.out.trans ((K27.out.trans (hv29.mono K27.out.size)).mono Hbw.out.size)) hb29 (ho29.mono (Nat.le_trans hsz K27.out.size)) hu29)
          obtain ⟨a0, n0, c0, a1, n1, c1, a2, n2, c2, a3, n3, c3, e0, e1, e2, e3⟩ := vn_slices ho29
          unfold Vn.cells at HF29 ⊢
          rw [e0, e1, e2, e3] at HF29 ⊢
          have hpc := fun j => cell_of_blk hb29 j
          have hpz := fun j => frozen_of_blk hb29 j
          clear hq29 ho29 hu29 hv29 e0 e1 e2 e3
          refine hK.out _ _ trivial (fun _ => ?_)
          clear hK K
          try simp only [Act.put, List.setIfInBounds_toArray, List.set_cons_zero, List.set_cons_succ]
          refine wpAnyH_take (i := 8) (v := ?_) rfl (by kernel_rfl) (by kernel_rfl) (by kernel_rfl) (fun _ _ _ h => h) (Or.inl ⟨by rfl, ?hy30⟩) trivial ?_
          case hy30 => (intro V hSw; clear hSw; go_simp; try with_reducible rfl)
          try simp only [Act.put, List.setIfInBounds_toArray, List.set_cons_zero, List.set_cons_succ]
          refine wpAnyH_take (i := 9) (v := ?_) rfl (by kernel_rfl) (by kernel_rfl) (by kernel_rfl) (fun _ _ _ h => h) (Or.inl ⟨by rfl, ?hy31⟩) trivial ?_
          case hy31 => (intro V hSw; clear hSw; go_simp; try with_reducible rfl)
          try simp only [Act.put, List.setIfInBounds_toArray, List.set_cons_zero, List.set_cons_succ]
          refine wpAnyH_take (i := 10) (v := ?_) rfl (by kernel_rfl) (by kernel_rfl) (by kernel_rfl) (fun _ _ _ h => h) (Or.inl ⟨by rfl, ?hy32⟩) trivial ?_
          case hy32 => (intro V hSw; clear hSw; go_simp; try with_reducible rfl)
          try simp only [Act.put, List.setIfInBounds_toArray, List.set_cons_zero, List.set_cons_succ]
          refine wpAnyH_ready (rs := [11]) (by kernel_rfl) (by simp) (AllReadyH.cons rfl (fun K hK => ?_) AllReadyH.nil)
          go_simp
          refine hK.out _ _ trivial (fun _ => ?_)
          clear hK K
          try simp only [Act.put, List.setIfInBounds_toArray, List.set_cons_zero, List.set_cons_succ]
          refine wpAnyH_ready (rs := [12]) (by kernel_rfl) (by simp) (AllReadyH.cons rfl (fun K hK => ?_) AllReadyH.nil)
          go_simp
          refine hK.out _ _ trivial (fun _ => ?_)
          clear hK K
          try simp only [Act.put, List.setIfInBounds_toArray, List.set_cons_zero, List.set_cons_succ]
          refine wpAnyH_done (by kernel_rfl) ?_ _
          go_wp2_with fail
          go_meet
          case rel => exact ⟨rfl, _, HF29.out⟩
        · go_simp
          have hb33 := blk_old hb23 (.cells #[.int .i64 1, .int .i64 3, .int .i64 1, .string ⟨#[97]⟩, .int .i64 2, .int .i64 1, .string ⟨#[99]⟩, .int .i64 1, .int .i64 1, .slice none 0 0] 78)
          have K33 := Lib.hid (K23.out.alloc K23.out.size (.cells #[.int .i64 1, .int .i64 3, .int .i64 1, .string ⟨#[97]⟩, .int .i64 2, .int .i64 1, .string ⟨#[99]⟩, .int .i64 1, .int .i64 1, .slice none 0 0] 78))
          have hap33 := Lib.hid (aw_call wv23)
          refine hK.out _ _ trivial (fun _ => ?_)
          clear hK K
          try simp only [Act.put, List.setIfInBounds_toArray, List.set_cons_zero, List.set_cons_succ]
          refine wpAnyH_take (i := 6) (v := ?_) rfl (by kernel_rfl) (by kernel_rfl) (by kernel_rfl) (fun _ _ _ h => h) (Or.inl ⟨by rfl, ?hy34⟩) trivial ?_
          case hy34 => (intro V hSw; clear hSw; go_simp; try with_reducible rfl)
          try simp only [Act.put, List.setIfInBounds_toArray, List.set_cons_zero, List.set_cons_succ]
          refine wpAnyH_ready (rs := [0]) (by kernel_rfl) (by simp) (AllReadyH.cons rfl (fun K hK => ?_) AllReadyH.nil)
          have hl35 := fun j => cell_of_blk hb33 j
          go_simp
          clear hl35
          refine hK.out _ _ trivial (fun _ => ?_)
          clear hK K
          try simp only [Act.put, List.setIfInBounds_toArray, List.set_cons_zero, List.set_cons_succ]
          refine wpAnyH_ready (rs := [7]) (by kernel_rfl) (by simp) (AllReadyH.cons rfl (fun K hK => ?_) AllReadyH.nil)
          go_simp
          refine (hap33.out).mono ?_
          rintro e wv36 hq36
          obtain ⟨U36, rfl, ho36, hu36, hv36⟩ := hq36.out
          have hb36 := blk_bels hv36 hb33
          have HF36 := Lib.hid (aw_end (U := U36) (Hbw.out.trans ((K33.out.trans (hv36.mono K33.out.size)).mono Hbw.out.size)) hb36 (ho36.mono (Nat.le_trans hsz K33.out.size)) hu36)
          obtain ⟨a0, n0, c0, a1, n1, c1, a2, n2, c2, a3, n3, c3, e0, e1, e2, e3⟩ := vn_slices ho36
          unfold Vn.cells at HF36 ⊢
          rw [e0, e1, e2, e3] at HF36 ⊢
          have hpc := fun j => cell_of_blk hb36 j
          have hpz := fun j => frozen_of_blk hb36 j
          clear hq36 ho36 hu36 hv36 e0 e1 e2 e3
          refine hK.out _ _ trivial (fun _ => ?_)
          clear hK K
          try simp only [Act.put, List.setIfInBounds_toArray, List.set_cons_zero, List.set_cons_succ]
          refine wpAnyH_take (i := 8) (v := ?_) rfl (by kernel_rfl) (by kernel_rfl) (by kernel_rfl) (fun _ _ _ h => h) (Or.inl ⟨by rfl, ?hy37⟩) trivial ?_
          case hy37 => (intro V hSw; clear hSw; go_simp; try with_reducible rfl)
          try simp only [Act.put, List.setIfInBounds_toArray, List.set_cons_zero, List.set_cons_succ]
          refine wpAnyH_take (i := 9) (v := ?_) rfl (by kernel_rfl) (by kernel_rfl) (by kernel_rfl) (fun _ _ _ h => h) (Or.inl ⟨by rfl, ?hy38⟩) trivial ?_
          case hy38 => (intro V hSw; clear hSw; go_simp; try with_reducible rfl)
          try simp only [Act.put, List.setIfInBounds_toArray, List.set_cons_zero, List.set_cons_succ]
          refine wpAnyH_take (i := 10) (v := ?_) rfl (by kernel_rfl) (by kernel_rfl) (by kernel_rfl) (fun _ _ _ h => h) (Or.inl ⟨by rfl, ?hy39⟩) trivial ?_
          case hy39 => (intro V hSw; clear hSw; go_simp; try with_reducible rfl)
          try simp only [Act.put, List.setIfInBounds_toArray, List.set_cons_zero, List.set_cons_succ]
          refine wpAnyH_ready (rs := [11]) (by kernel_rfl) (by simp) (AllReadyH.cons rfl (fun K hK => ?_) AllReadyH.nil)
          go_simp
          refine hK.out _ _ trivial (fun _ => ?_)
          clear hK K
          try simp only [Act.put, List.setIfInBounds_toArray, List.set_cons_zero, List.set_cons_succ]
          refine wpAnyH_ready (rs := [12]) (by kernel_rfl) (by simp) (AllReadyH.cons rfl (fun K hK => ?_) AllReadyH.nil)
          go_simp
          refine hK.out _ _ trivial (fun _ => ?_)
          clear hK K
          try simp only [Act.put, List.setIfInBounds_toArray, List.set_cons_zero, List.set_cons_succ]
          refine wpAnyH_done (by kernel_rfl) ?_ _
          go_wp2_with fail
          go_meet
          case rel => exact ⟨rfl, _, HF36.out⟩
  case rest =>
    obtain ⟨rfl, U, h1, h2, h3, h4⟩ := hcut
    obtain ⟨f1, f2, f3, f4⟩ := aw_facts h3
    obtain ⟨a0, n0, c0, a1, n1, c1, a2, n2, c2, a3, n3, c3, e0, e1, e2, e3⟩ := vn_slices h2
    have hHas := fun (W : World) (hW : Below wc.heap.size wc W) => has_yes (w := W) (h2.isVn.below hW) f1
    have hAt := fun (W : World) (hW : Below wc.heap.size wc W) => at_any U 1 ⟨#[98]⟩ W (h2.isVn.below hW) f3 f4 (fun n hn => ⟨_, _, _, (own_slice (h2.own n hn).1).choose_spec.choose_spec⟩)
    have hChk := fun (W : World) => lcheck_any 0 0 ⟨⟨#[]⟩, 0, 0⟩ ⟨⟨#[]⟩, 0, 0⟩ (.slice none 0 0) [] W (isSl_nil _ _ _ _ _ (by unfold maxLen; omega)) (Nat.zero_le _)
    rw [aw_check] at hChk
    unfold chkM metaV at hChk
    rw [if_neg (by decide)] at hChk
    unfold Vn.cells at h1 hHas hAt
    rw [e0, e1, e2, e3] at h1 hHas hAt
    have c0' := (cell_of_blk h1 0).trans (show _ = some (.slice a0 n0 c0) from rfl)
    have c1' := (cell_of_blk h1 1).trans (show _ = some (.slice a1 n1 c1) from rfl)
    have c2' := (cell_of_blk h1 2).trans (show _ = some (.slice a2 n2 c2) from rfl)
    have c3' := (cell_of_blk h1 3).trans (show _ = some (.slice a3 n3 c3) from rfl)
    have hlt := blk_lt h1
    have HHas := Lib.hid hHas
    have HAt := Lib.hid hAt
    have HChk := Lib.hid hChk
    have Hb := Lib.hid h4
    have H1 := Lib.hid h1
    have F2 := Lib.hid f2
    clear h1 h2 h3 h4 f1 f2 f3 f4 hHas hAt hChk e0 e1 e2 e3
    go_wp2_with fail
    refine (HHas.out wc (Below.refl _ _)).mono ?_
    rintro e w1 ⟨rfl, hb1⟩
    have h1' := blk_bels hb1 H1.out
    have d0 := (cell_of_blk h1' 0).trans (show _ = some (.slice a0 n0 c0) from rfl)
    have d1 := (cell_of_blk h1' 1).trans (show _ = some (.slice a1 n1 c1) from rfl)
    have d2 := (cell_of_blk h1' 2).trans (show _ = some (.slice a2 n2 c2) from rfl)
    have d3 := (cell_of_blk h1' 3).trans (show _ = some (.slice a3 n3 c3) from rfl)
    have HAt1 := Lib.hid (HAt.out w1 hb1)
    have Hb1 := Lib.hid hb1
    clear hb1 h1' HAt
    go_wp2_with fail
    refine HAt1.out.mono ?_
    rintro e w2 ⟨x, rows, rfl, ho, hr, hb2⟩
    obtain ⟨xa, xc, rfl⟩ := own_slice ho.1
    have hr1 : rows.length = 1 := by have := congrArg List.length (hr.trans F2.out); rwa [List.length_map] at this
    rw [hr1]
    have Hb2 := Lib.hid hb2
    clear ho hr hb2 hr1
    go_wp2_with fail
    refine (HChk.out _).mono ?_
    rintro e w3 ⟨rfl, hb3⟩
    have Hb3 := Lib.hid (Hb.out.trans ((Hb1.out.trans ((Hb2.out.trans (hb3.mono Hb2.out.size)).mono Hb1.out.size)).mono Hb.out.size))
    clear hb3
    go_wp2_with fail
    go_ret
    exact ⟨rfl, Hb3.out⟩
end Go.Proofs.Ytjefpogeknbelaa.Tithe
