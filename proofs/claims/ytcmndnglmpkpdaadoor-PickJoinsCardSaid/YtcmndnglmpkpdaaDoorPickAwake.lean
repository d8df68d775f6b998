/- Chapter 17's awake: walked. -/
import Derived.Test.YtcmndnglmpkpdaaDoorPickNext
namespace Go.Proofs.YtcmndnglmpkpdaaDoor.Tithe
open Go.RowKit Go.Sort Go.Shelf
set_option linter.unusedVariables false
set_option linter.unusedSimpArgs false
set_option maxRecDepth 100000
theorem key17_any (u : ByteArray) (w : World) : Calls Tryd.prog 23 #[.string u] w fun e w' => e = .returned (.agg #[.string u, .int .i64 1, .int .i64 1]) ∧ Below w.heap.size w w' := by
  go_enter Tryd.func23, Tryd.ntmps23
  go_wp2
  refine bodyPost_ret (v := .agg #[.string u, .int .i64 1, .int .i64 1]) (by simp [results, Tryd.results23, go_sem]) rfl ⟨rfl, ?_⟩
  exact (Below.refl _ _).alloc (Nat.le_refl _) _
def awM (z : Nat) : Mt := ⟨z, 1, ⟨⟨#[97]⟩, 1, 1⟩, ⟨⟨#[98]⟩, 1, 1⟩, []⟩
def AwJ (w W1 : World) (z : Nat) (xa : Option Addr) (xc : Nat) (rows : List Mr) (W : World) : Prop :=
  W.heap[w.heap.size]? = some (.cells #[.slice xa z xc, .slice none 0 0, .slice none 0 0, .slice none 0 0] 26 (0, 0)) ∧ OwnMs W W1.heap.size (.slice xa z xc) rows ∧ rows.map (·.1) = (List.range z).map awM ∧ Below w.heap.size w W ∧ W1.heap.size ≤ W.heap.size
theorem aw17_next {w W1 X w2 : World} {z : Nat} {xa ya : Option Addr} {xc yc : Nat} {rows : List Mr} {o : Obj} (hb : Below w.heap.size w X) (hv : w2.heap[w.heap.size]? = some (.cells #[.slice xa z xc, .slice none 0 0, .slice none 0 0, .slice none 0 0] 26 (0, 0))) (hm : OwnMs w2 W1.heap.size (.slice ya (z + 1) yc) (rows ++ [(awM z, .slice none 0 0)]))
    (hg : (X.alloc o).grownBy w2 (Value.slice xa z xc).ownBlock) (h0 : OwnMs X W1.heap.size (.slice xa z xc) rows) (hr : rows.map (·.1) = (List.range z).map awM) (hw : w.heap.size < W1.heap.size) (hs : W1.heap.size ≤ X.heap.size) :
    AwJ w W1 (z + 1) ya yc (rows ++ [(awM z, .slice none 0 0)]) (w2.setCell ⟨w.heap.size, 0, none⟩ (.slice ya (z + 1) yc)) := by
  refine ⟨(blk_set hv).trans rfl, hm.far (grown_set w2 w.heap.size 0 (.slice ya (z + 1) yc)) (fun r e => by cases e; exact hw), ?_, ?_, ?_⟩
  · rw [List.map_append, hr, List.range_succ, List.map_append]; rfl
  · exact ((hb.alloc hb.size _).grown hg (Nat.le_trans hb.size (by simp)) (fun g e => by have := (h0.1.lt g e).1; omega)).setCell (p := ⟨w.heap.size, 0, none⟩) (Nat.le_refl _) _
  · rw [World.size_setCell]; exact Nat.le_trans hs (Nat.le_trans (by simp) hg.size)
/-- the version of the fixed answer -/
def awV (x : Value) (rows : List Mr) : Vn := ⟨fun n => if n = 0 then x else .slice none 0 0, fun n => if n = 0 then rows else []⟩
theorem awV_cells (x : Value) (rows : List Mr) : (awV x rows).cells = #[x, .slice none 0 0, .slice none 0 0, .slice none 0 0] := rfl
theorem awV_is {W : World} {base : Nat} {x : Value} {rows : List Mr} (h : OwnMs W base x rows) : IsVn W (awV x rows) := by
  intro n hn
  unfold awV
  dsimp only
  by_cases e : n = 0
  · rw [if_pos e, if_pos e]; exact h.isMr
  · rw [if_neg e, if_neg e]; exact (OwnMs.nil W base).isMr
theorem awV_tabs (x : Value) (rows : List Mr) : tabs (awV x rows).l 4 = rows.map fun r => (0, r) := by
  show (((([] ++ rows.map fun r => (0, r)) ++ []) ++ []) ++ []) = _
  simp
theorem aw17_facts {rows : List Mr} {x : Value} (h : rows.map (·.1) = (List.range 3).map awM) : (tabs (awV x rows).l 4).length ≤ 100000 ∧ (∀ p ∈ tabs (awV x rows).l 4, p.2.1.refs.length ≤ 1000000) ∧ fullN (awV x rows).l = some 0 ∧ (planP (awV x rows).l 0).frm = 0 ∧ (planP (awV x rows).l 0).dest = 1 ∧ (planP (awV x rows).l 0).up = [2] := by
  have hl : rows.length = 3 := by have := congrArg List.length h; rw [List.length_map, List.length_map, List.length_range] at this; exact this
  rw [awV_tabs]
  refine ⟨by rw [List.length_map, hl]; omega, fun p hp => ?_, ?_, rfl, rfl, ?_⟩
  · obtain ⟨r, hr, rfl⟩ := List.mem_map.1 hp
    have : r.1 ∈ (List.range 3).map awM := by rw [← h]; exact List.mem_map.2 ⟨r, hr, rfl⟩
    obtain ⟨k, -, e⟩ := List.mem_map.1 this
    show r.1.refs.length ≤ 1000000
    rw [← e]; exact Nat.zero_le _
  · unfold fullN
    rw [if_pos]
    show capP 0 < rows.length
    rw [hl]; decide
  · match rows, hl, h with
    | [a, b, c], _, h =>
      simp [List.range_succ] at h
      unfold planP planM awV
      simp
      rw [h.2.2]; rfl
attribute [local go_sem] Oper.semAt_some
set_option maxHeartbeats 3200000 in
theorem awake17_any (w : World) (ht : TabOk w) : Calls Tryd.prog 9 #[] w fun e w' => e = .returned (.bool true) ∧ Below w.heap.size w w' := by
  have hA : Below w.heap.size w (w.alloc (.cells #[.slice none 0 0, .slice none 0 0, .slice none 0 0, .slice none 0 0] 26)) := (Below.refl _ _).alloc (Nat.le_refl _) _
  have hI : AwJ w (w.alloc (.cells #[.slice none 0 0, .slice none 0 0, .slice none 0 0, .slice none 0 0] 26)) 0 none 0 [] (w.alloc (.cells #[.slice none 0 0, .slice none 0 0, .slice none 0 0, .slice none 0 0] 26)) :=
    ⟨blk_of_alloc _ _, OwnMs.nil _ _, rfl, hA, Nat.le_refl _⟩
  have hwW : w.heap.size < (w.alloc (.cells #[.slice none 0 0, .slice none 0 0, .slice none 0 0, .slice none 0 0] 26)).heap.size := by simp
  have HI := Lib.hid hI
  have Ht := Lib.hid ht
  clear hA hI ht
  go_enter Tryd.func9, Tryd.ntmps9
  go_upto_region 2 with fail
  generalize w.alloc (.cells #[.slice none 0 0, .slice none 0 0, .slice none 0 0, .slice none 0 0] 26) = W1 at *
  go_wp2_with fail
  go_loopw [5] (fun zv wr => ∃ z : Nat, z ≤ 3 ∧ zv = .int .i64 z ∧ ∃ xa xc rows, AwJ w W1 z xa xc rows wr) (fun zv _ => 3 - (intOf zv).toNat)
  case atStart => exact ⟨0, Nat.zero_le _, rfl, _, _, _, HI.out⟩
  case round =>
    obtain ⟨wo, rfl⟩ : ∃ wo : World, wo = wr := ⟨_, rfl⟩
    obtain ⟨z, hz, rfl, xa, xc, rows, hv, hms, hrows, hb, hsz⟩ := hrel
    by_cases hz3 : z < 3
    · have hv0 : wo.drew.heap[w.heap.size]? = _ := hv
      have Hms : Hid (OwnMs wo.drew W1.heap.size (.slice xa z xc) rows) := Lib.hid (hms.below ((Below.refl _ _).drew))
      have Hrows := Lib.hid hrows
      have Hbw : Hid (Below w.heap.size w wo.drew) := Lib.hid hb.drew
      have Hsz : Hid (W1.heap.size ≤ wo.drew.heap.size) := Lib.hid hsz
      have K0 := Lib.hid (Below.refl wo.drew.heap.size wo.drew)
      clear hv hms hrows hb hsz HI
      go_wp2_with fail
      refine wp_region_held_drew (S := fun _ => True) (by kernel_rfl) trivial (fun _ => ?_)
      refine wpAnyH_take (i := 0) (oi := { dst := some 8, op := Op.fieldAddr 26 (Operand.tmp 1) 0, type := 0, pos := "law.go:19", after := #[], guard := none }) (v := ?_) rfl (by kernel_rfl) (by kernel_rfl) (by kernel_rfl) (fun _ _ _ h => h) (Or.inl ⟨by rfl, ?hy1⟩) trivial ?_
      case hy1 => (intro V hSw; (try dsimp only at hSw); clear hSw; go_simp; try with_reducible rfl)
      try simp only [Act.put, List.setIfInBounds_toArray, List.set_cons_zero, List.set_cons_succ]
      refine wpAnyH_take (i := 1) (oi := { dst := some 9, op := Op.indexAddr 24 (Operand.tmp 8) (Operand.const (Value.int IntKind.i64 0)), type := 0, pos := "law.go:19", after := #[{ on := 0, ground := Ground.data }], guard := none }) (v := ?_) rfl (by kernel_rfl) (by kernel_rfl) (by kernel_rfl) (fun _ _ _ h => h) (Or.inl ⟨by rfl, ?hy2⟩) trivial ?_
      case hy2 => (intro V hSw; (try dsimp only at hSw); clear hSw; go_simp; try with_reducible rfl)
      try simp only [Act.put, List.setIfInBounds_toArray, List.set_cons_zero, List.set_cons_succ]
      refine wpAnyH_take (i := 3) (oi := { dst := some 11, op := Op.move (Operand.tmp 2), type := 3, pos := "law.go:19", after := #[], guard := none }) (v := ?_) rfl (by kernel_rfl) (by kernel_rfl) (by kernel_rfl) (fun _ _ _ h => h) (Or.inl ⟨by rfl, ?hy3⟩) trivial ?_
      case hy3 => (intro V hSw; (try dsimp only at hSw); clear hSw; go_simp; try with_reducible rfl)
      try simp only [Act.put, List.setIfInBounds_toArray, List.set_cons_zero, List.set_cons_succ]
      refine wpAnyH_take (i := 9) (oi := { dst := some 17, op := Op.fieldAddr 26 (Operand.tmp 1) 0, type := 0, pos := "law.go:19", after := #[], guard := none }) (v := ?_) rfl (by kernel_rfl) (by kernel_rfl) (by kernel_rfl) (fun _ _ _ h => h) (Or.inl ⟨by rfl, ?hy4⟩) trivial ?_
      case hy4 => (intro V hSw; (try dsimp only at hSw); clear hSw; go_simp; try with_reducible rfl)
      try simp only [Act.put, List.setIfInBounds_toArray, List.set_cons_zero, List.set_cons_succ]
      refine wpAnyH_ready (rs := [2, 4]) (by kernel_rfl) (by simp) (AllReadyH.cons rfl (fun K hK => ?_) (AllReadyH.cons rfl (fun K hK => ?_) AllReadyH.nil))
      · have hld5 := (cell_of_blk hv0 0).trans (show _ = some (.slice xa z xc) from rfl)
        go_simp
        clear hld5
        refine hK.out _ _ trivial (fun _ => ?_)
        clear hK K
        try simp only [Act.put, List.setIfInBounds_toArray, List.set_cons_zero, List.set_cons_succ]
        refine wpAnyH_ready (rs := [4]) (by kernel_rfl) (by simp) (AllReadyH.cons rfl (fun K hK => ?_) AllReadyH.nil)
        go_simp
        refine (key17_any _ _).mono ?_
        rintro e wv6 ⟨rfl, hb6⟩
        have hv6 := blk_bels hb6 hv0
        have K6 := Lib.hid (K0.out.trans (hb6.mono K0.out.size))
        clear hb6
        refine hK.out _ _ trivial (fun _ => ?_)
        clear hK K
        try simp only [Act.put, List.setIfInBounds_toArray, List.set_cons_zero, List.set_cons_succ]
        refine wpAnyH_ready (rs := [5]) (by kernel_rfl) (by simp) (AllReadyH.cons rfl (fun K hK => ?_) AllReadyH.nil)
        go_simp
        refine (key17_any _ _).mono ?_
        rintro e wv7 ⟨rfl, hb7⟩
        have hv7 := blk_bels hb7 hv6
        have K7 := Lib.hid (K6.out.trans (hb7.mono K6.out.size))
        clear hb7
        refine hK.out _ _ trivial (fun _ => ?_)
        clear hK K
        try simp only [Act.put, List.setIfInBounds_toArray, List.set_cons_zero, List.set_cons_succ]
        refine wpAnyH_take (i := 6) (oi := { dst := some 14, op := Op.build 49 #[(0, Operand.tmp 11), (1, Operand.const (Value.int IntKind.i64 1)), (2, Operand.tmp 12), (3, Operand.tmp 13)], type := 49, pos := "law.go:19", after := #[{ on := 3, ground := Ground.data }, { on := 4, ground := Ground.data }, { on := 5, ground := Ground.data }], guard := none }) (v := ?_) rfl (by kernel_rfl) (by kernel_rfl) (by kernel_rfl) (fun _ _ _ h => h) (Or.inl ⟨by rfl, ?hy8⟩) trivial ?_
        case hy8 => (intro V hSw; (try dsimp only at hSw); clear hSw; go_simp; try with_reducible rfl)
        try simp only [Act.put, List.setIfInBounds_toArray, List.set_cons_zero, List.set_cons_succ]
        refine wpAnyH_ready (rs := [7]) (by kernel_rfl) (by simp) (AllReadyH.cons rfl (fun K hK => ?_) AllReadyH.nil)
        go_simp
        have hms9 := Hms.out.below K7.out
        obtain ⟨ya9, yc9, w29, hrun9, hmt9, hg9, -⟩ := push_run wv7 W1.heap.size xa z xc rows (awM z, .slice none 0 0) hms9 (World.ownsRow_nil _ _ _ _) (by omega) (Nat.le_trans Hsz.out K7.out.size) [.int .i64 z, .int .i64 1, .string ⟨#[97]⟩, .int .i64 1, .int .i64 1, .string ⟨#[98]⟩, .int .i64 1, .int .i64 1, .slice none 0 0] rfl
        have hv9 := blk_old hv7 (.cells #[.int .i64 z, .int .i64 1, .string ⟨#[97]⟩, .int .i64 1, .int .i64 1, .string ⟨#[98]⟩, .int .i64 1, .int .i64 1, .slice none 0 0] 49)
        have hvt9 : w29.heap[w.heap.size]? = _ := (hg9.block _ (blk_lt hv9) (fun e => by have := (hms9.1.lt _ e.symm).1; omega)).trans hv9
        have HFn9 := Lib.hid (aw17_next (Hbw.out.trans (K7.out.mono Hbw.out.size)) hvt9 hmt9 hg9 hms9 Hrows.out hwW (Nat.le_trans Hsz.out K7.out.size))
        clear hmt9 hg9 hms9
        refine hK.out _ _ trivial (fun _ => ?_)
        clear hK K
        try simp only [Act.put, List.setIfInBounds_toArray, List.set_cons_zero, List.set_cons_succ]
        refine wpAnyH_ready (rs := [8]) (by kernel_rfl) (by simp) (AllReadyH.cons rfl (fun K hK => ?_) AllReadyH.nil)
        refine wp_append_run (.tmp 10) (.tmp 15) 23 rfl _ _ _ _ rfl rfl hrun9 ?_
        refine hK.out _ _ trivial (fun _ => ?_)
        clear hK K
        try simp only [Act.put, List.setIfInBounds_toArray, List.set_cons_zero, List.set_cons_succ]
        refine wpAnyH_take (i := 10) (oi := { dst := some 18, op := Op.indexAddr 24 (Operand.tmp 17) (Operand.const (Value.int IntKind.i64 0)), type := 0, pos := "law.go:19", after := #[{ on := 9, ground := Ground.data }, { on := 0, ground := Ground.phase }, { on := 1, ground := Ground.phase }, { on := 2, ground := Ground.phase }, { on := 3, ground := Ground.phase }, { on := 4, ground := Ground.phase }, { on := 5, ground := Ground.phase }, { on := 6, ground := Ground.phase }, { on := 7, ground := Ground.phase }, { on := 8, ground := Ground.phase }], guard := none }) (v := ?_) rfl (by kernel_rfl) (by kernel_rfl) (by kernel_rfl) (fun _ _ _ h => h) (Or.inl ⟨by rfl, ?hy10⟩) trivial ?_
        case hy10 => (intro V hSw; (try dsimp only at hSw); clear hSw; go_simp; try with_reducible rfl)
        try simp only [Act.put, List.setIfInBounds_toArray, List.set_cons_zero, List.set_cons_succ]
        refine wpAnyH_ready (rs := [11]) (by kernel_rfl) (by simp) (AllReadyH.cons rfl (fun K hK => ?_) AllReadyH.nil)
        have pc11 := (cell_of_blk hvt9 0).trans (show _ = some (.slice xa z xc) from rfl)
        have pz11 := frozen_of_blk hvt9 0
        go_simp
        clear pc11 pz11
        refine hK.out _ _ trivial (fun _ => ?_)
        clear hK K
        try simp only [Act.put, List.setIfInBounds_toArray, List.set_cons_zero, List.set_cons_succ]
        refine wpAnyH_done (by kernel_rfl) ?_ _
        go_wp2_with fail
        go_roundw
        case rel => exact ⟨z + 1, by omega, by go_num, ya9, yc9, _, HFn9.out⟩
        case measure => simp [intOf]; omega
      · go_simp
        refine (key17_any _ _).mono ?_
        rintro e wv12 ⟨rfl, hb12⟩
        have hv12 := blk_bels hb12 hv0
        have K12 := Lib.hid (K0.out.trans (hb12.mono K0.out.size))
        clear hb12
        refine hK.out _ _ trivial (fun _ => ?_)
        clear hK K
        try simp only [Act.put, List.setIfInBounds_toArray, List.set_cons_zero, List.set_cons_succ]
        refine wpAnyH_ready (rs := [2, 5]) (by kernel_rfl) (by simp) (AllReadyH.cons rfl (fun K hK => ?_) (AllReadyH.cons rfl (fun K hK => ?_) AllReadyH.nil))
        · have hld13 := (cell_of_blk hv12 0).trans (show _ = some (.slice xa z xc) from rfl)
          go_simp
          clear hld13
          refine hK.out _ _ trivial (fun _ => ?_)
          clear hK K
          try simp only [Act.put, List.setIfInBounds_toArray, List.set_cons_zero, List.set_cons_succ]
          refine wpAnyH_ready (rs := [5]) (by kernel_rfl) (by simp) (AllReadyH.cons rfl (fun K hK => ?_) AllReadyH.nil)
          go_simp
          refine (key17_any _ _).mono ?_
          rintro e wv14 ⟨rfl, hb14⟩
          have hv14 := blk_bels hb14 hv12
          have K14 := Lib.hid (K12.out.trans (hb14.mono K12.out.size))
          clear hb14
          refine hK.out _ _ trivial (fun _ => ?_)
          clear hK K
          try simp only [Act.put, List.setIfInBounds_toArray, List.set_cons_zero, List.set_cons_succ]
          refine wpAnyH_take (i := 6) (oi := { dst := some 14, op := Op.build 49 #[(0, Operand.tmp 11), (1, Operand.const (Value.int IntKind.i64 1)), (2, Operand.tmp 12), (3, Operand.tmp 13)], type := 49, pos := "law.go:19", after := #[{ on := 3, ground := Ground.data }, { on := 4, ground := Ground.data }, { on := 5, ground := Ground.data }], guard := none }) (v := ?_) rfl (by kernel_rfl) (by kernel_rfl) (by kernel_rfl) (fun _ _ _ h => h) (Or.inl ⟨by rfl, ?hy15⟩) trivial ?_
          case hy15 => (intro V hSw; (try dsimp only at hSw); clear hSw; go_simp; try with_reducible rfl)
          try simp only [Act.put, List.setIfInBounds_toArray, List.set_cons_zero, List.set_cons_succ]
          refine wpAnyH_ready (rs := [7]) (by kernel_rfl) (by simp) (AllReadyH.cons rfl (fun K hK => ?_) AllReadyH.nil)
          go_simp
          have hms16 := Hms.out.below K14.out
          obtain ⟨ya16, yc16, w216, hrun16, hmt16, hg16, -⟩ := push_run wv14 W1.heap.size xa z xc rows (awM z, .slice none 0 0) hms16 (World.ownsRow_nil _ _ _ _) (by omega) (Nat.le_trans Hsz.out K14.out.size) [.int .i64 z, .int .i64 1, .string ⟨#[97]⟩, .int .i64 1, .int .i64 1, .string ⟨#[98]⟩, .int .i64 1, .int .i64 1, .slice none 0 0] rfl
          have hv16 := blk_old hv14 (.cells #[.int .i64 z, .int .i64 1, .string ⟨#[97]⟩, .int .i64 1, .int .i64 1, .string ⟨#[98]⟩, .int .i64 1, .int .i64 1, .slice none 0 0] 49)
          have hvt16 : w216.heap[w.heap.size]? = _ := (hg16.block _ (blk_lt hv16) (fun e => by have := (hms16.1.lt _ e.symm).1; omega)).trans hv16
          have HFn16 := Lib.hid (aw17_next (Hbw.out.trans (K14.out.mono Hbw.out.size)) hvt16 hmt16 hg16 hms16 Hrows.out hwW (Nat.le_trans Hsz.out K14.out.size))
          clear hmt16 hg16 hms16
          refine hK.out _ _ trivial (fun _ => ?_)
          clear hK K
          try simp only [Act.put, List.setIfInBounds_toArray, List.set_cons_zero, List.set_cons_succ]
          refine wpAnyH_ready (rs := [8]) (by kernel_rfl) (by simp) (AllReadyH.cons rfl (fun K hK => ?_) AllReadyH.nil)
          refine wp_append_run (.tmp 10) (.tmp 15) 23 rfl _ _ _ _ rfl rfl hrun16 ?_
          refine hK.out _ _ trivial (fun _ => ?_)
          clear hK K
          try simp only [Act.put, List.setIfInBounds_toArray, List.set_cons_zero, List.set_cons_succ]
          refine wpAnyH_take (i := 10) (oi := { dst := some 18, op := Op.indexAddr 24 (Operand.tmp 17) (Operand.const (Value.int IntKind.i64 0)), type := 0, pos := "law.go:19", after := #[{ on := 9, ground := Ground.data }, { on := 0, ground := Ground.phase }, { on := 1, ground := Ground.phase }, { on := 2, ground := Ground.phase }, { on := 3, ground := Ground.phase }, { on := 4, ground := Ground.phase }, { on := 5, ground := Ground.phase }, { on := 6, ground := Ground.phase }, { on := 7, ground := Ground.phase }, { on := 8, ground := Ground.phase }], guard := none }) (v := ?_) rfl (by kernel_rfl) (by kernel_rfl) (by kernel_rfl) (fun _ _ _ h => h) (Or.inl ⟨by rfl, ?hy17⟩) trivial ?_
          case hy17 => (intro V hSw; (try dsimp only at hSw); clear hSw; go_simp; try with_reducible rfl)
          try simp only [Act.put, List.setIfInBounds_toArray, List.set_cons_zero, List.set_cons_succ]
          refine wpAnyH_ready (rs := [11]) (by kernel_rfl) (by simp) (AllReadyH.cons rfl (fun K hK => ?_) AllReadyH.nil)
          have pc18 := (cell_of_blk hvt16 0).trans (show _ = some (.slice xa z xc) from rfl)
          have pz18 := frozen_of_blk hvt16 0
          go_simp
          clear pc18 pz18
          refine hK.out _ _ trivial (fun _ => ?_)
          clear hK K
          try simp only [Act.put, List.setIfInBounds_toArray, List.set_cons_zero, List.set_cons_succ]
          refine wpAnyH_done (by kernel_rfl) ?_ _
          go_wp2_with fail
          go_roundw
          case rel => exact ⟨z + 1, by omega, by go_num, ya16, yc16, _, HFn16.out⟩
          case measure => simp [intOf]; omega
        · go_simp
          refine (key17_any _ _).mono ?_
          rintro e wv19 ⟨rfl, hb19⟩
          have hv19 := blk_bels hb19 hv12
          have K19 := Lib.hid (K12.out.trans (hb19.mono K12.out.size))
          clear hb19
          refine hK.out _ _ trivial (fun _ => ?_)
          clear hK K
          try simp only [Act.put, List.setIfInBounds_toArray, List.set_cons_zero, List.set_cons_succ]
          refine wpAnyH_take (i := 6) (oi := { dst := some 14, op := Op.build 49 #[(0, Operand.tmp 11), (1, Operand.const (Value.int IntKind.i64 1)), (2, Operand.tmp 12), (3, Operand.tmp 13)], type := 49, pos := "law.go:19", after := #[{ on := 3, ground := Ground.data }, { on := 4, ground := Ground.data }, { on := 5, ground := Ground.data }], guard := none }) (v := ?_) rfl (by kernel_rfl) (by kernel_rfl) (by kernel_rfl) (fun _ _ _ h => h) (Or.inl ⟨by rfl, ?hy20⟩) trivial ?_
          case hy20 => (intro V hSw; (try dsimp only at hSw); clear hSw; go_simp; try with_reducible rfl)
          try simp only [Act.put, List.setIfInBounds_toArray, List.set_cons_zero, List.set_cons_succ]
          refine wpAnyH_ready (rs := [2, 7]) (by kernel_rfl) (by simp) (AllReadyH.cons rfl (fun K hK => ?_) (AllReadyH.cons rfl (fun K hK => ?_) AllReadyH.nil))
          · have hld21 := (cell_of_blk hv19 0).trans (show _ = some (.slice xa z xc) from rfl)
            go_simp
            clear hld21
            refine hK.out _ _ trivial (fun _ => ?_)
            clear hK K
            try simp only [Act.put, List.setIfInBounds_toArray, List.set_cons_zero, List.set_cons_succ]
            refine wpAnyH_ready (rs := [7]) (by kernel_rfl) (by simp) (AllReadyH.cons rfl (fun K hK => ?_) AllReadyH.nil)
            go_simp
            have hms22 := Hms.out.below K19.out
            obtain ⟨ya22, yc22, w222, hrun22, hmt22, hg22, -⟩ := push_run wv19 W1.heap.size xa z xc rows (awM z, .slice none 0 0) hms22 (World.ownsRow_nil _ _ _ _) (by omega) (Nat.le_trans Hsz.out K19.out.size) [.int .i64 z, .int .i64 1, .string ⟨#[97]⟩, .int .i64 1, .int .i64 1, .string ⟨#[98]⟩, .int .i64 1, .int .i64 1, .slice none 0 0] rfl
            have hv22 := blk_old hv19 (.cells #[.int .i64 z, .int .i64 1, .string ⟨#[97]⟩, .int .i64 1, .int .i64 1, .string ⟨#[98]⟩, .int .i64 1, .int .i64 1, .slice none 0 0] 49)
            have hvt22 : w222.heap[w.heap.size]? = _ := (hg22.block _ (blk_lt hv22) (fun e => by have := (hms22.1.lt _ e.symm).1; omega)).trans hv22
            have HFn22 := Lib.hid (aw17_next (Hbw.out.trans (K19.out.mono Hbw.out.size)) hvt22 hmt22 hg22 hms22 Hrows.out hwW (Nat.le_trans Hsz.out K19.out.size))
            clear hmt22 hg22 hms22
            refine hK.out _ _ trivial (fun _ => ?_)
            clear hK K
            try simp only [Act.put, List.setIfInBounds_toArray, List.set_cons_zero, List.set_cons_succ]
            refine wpAnyH_ready (rs := [8]) (by kernel_rfl) (by simp) (AllReadyH.cons rfl (fun K hK => ?_) AllReadyH.nil)
            refine wp_append_run (.tmp 10) (.tmp 15) 23 rfl _ _ _ _ rfl rfl hrun22 ?_
            refine hK.out _ _ trivial (fun _ => ?_)
            clear hK K
            try simp only [Act.put, List.setIfInBounds_toArray, List.set_cons_zero, List.set_cons_succ]
            refine wpAnyH_take (i := 10) (oi := { dst := some 18, op := Op.indexAddr 24 (Operand.tmp 17) (Operand.const (Value.int IntKind.i64 0)), type := 0, pos := "law.go:19", after := #[{ on := 9, ground := Ground.data }, { on := 0, ground := Ground.phase }, { on := 1, ground := Ground.phase }, { on := 2, ground := Ground.phase }, { on := 3, ground := Ground.phase }, { on := 4, ground := Ground.phase }, { on := 5, ground := Ground.phase }, { on := 6, ground := Ground.phase }, { on := 7, ground := Ground.phase }, { on := 8, ground := Ground.phase }], guard := none }) (v := ?_) rfl (by kernel_rfl) (by kernel_rfl) (by kernel_rfl) (fun _ _ _ h => h) (Or.inl ⟨by rfl, ?hy23⟩) trivial ?_
            case hy23 => (intro V hSw; (try dsimp only at hSw); clear hSw; go_simp; try with_reducible rfl)
            try simp only [Act.put, List.setIfInBounds_toArray, List.set_cons_zero, List.set_cons_succ]
            refine wpAnyH_ready (rs := [11]) (by kernel_rfl) (by simp) (AllReadyH.cons rfl (fun K hK => ?_) AllReadyH.nil)
            have pc24 := (cell_of_blk hvt22 0).trans (show _ = some (.slice xa z xc) from rfl)
            have pz24 := frozen_of_blk hvt22 0
            go_simp
            clear pc24 pz24
            refine hK.out _ _ trivial (fun _ => ?_)
            clear hK K
            try simp only [Act.put, List.setIfInBounds_toArray, List.set_cons_zero, List.set_cons_succ]
            refine wpAnyH_done (by kernel_rfl) ?_ _
            go_wp2_with fail
            go_roundw
            case rel => exact ⟨z + 1, by omega, by go_num, ya22, yc22, _, HFn22.out⟩
            case measure => simp [intOf]; omega
          · go_simp
            have hms25 := Hms.out.below K19.out
            obtain ⟨ya25, yc25, w225, hrun25, hmt25, hg25, -⟩ := push_run wv19 W1.heap.size xa z xc rows (awM z, .slice none 0 0) hms25 (World.ownsRow_nil _ _ _ _) (by omega) (Nat.le_trans Hsz.out K19.out.size) [.int .i64 z, .int .i64 1, .string ⟨#[97]⟩, .int .i64 1, .int .i64 1, .string ⟨#[98]⟩, .int .i64 1, .int .i64 1, .slice none 0 0] rfl
            have hv25 := blk_old hv19 (.cells #[.int .i64 z, .int .i64 1, .string ⟨#[97]⟩, .int .i64 1, .int .i64 1, .string ⟨#[98]⟩, .int .i64 1, .int .i64 1, .slice none 0 0] 49)
            have hvt25 : w225.heap[w.heap.size]? = _ := (hg25.block _ (blk_lt hv25) (fun e => by have := (hms25.1.lt _ e.symm).1; omega)).trans hv25
            have HFn25 := Lib.hid (aw17_next (Hbw.out.trans (K19.out.mono Hbw.out.size)) hvt25 hmt25 hg25 hms25 Hrows.out hwW (Nat.le_trans Hsz.out K19.out.size))
            clear hmt25 hg25 hms25
            refine hK.out _ _ trivial (fun _ => ?_)
            clear hK K
            try simp only [Act.put, List.setIfInBounds_toArray, List.set_cons_zero, List.set_cons_succ]
            refine wpAnyH_ready (rs := [2]) (by kernel_rfl) (by simp) (AllReadyH.cons rfl (fun K hK => ?_) AllReadyH.nil)
            have hld26 := (cell_of_blk hv25 0).trans (show _ = some (.slice xa z xc) from rfl)
            have hle26 := (cell_of_blk hv19 0).trans (show _ = some (.slice xa z xc) from rfl)
            have hlt26 := blk_lt hv19
            go_simp
            clear hld26 hle26 hlt26
            refine hK.out _ _ trivial (fun _ => ?_)
            clear hK K
            try simp only [Act.put, List.setIfInBounds_toArray, List.set_cons_zero, List.set_cons_succ]
            refine wpAnyH_ready (rs := [8]) (by kernel_rfl) (by simp) (AllReadyH.cons rfl (fun K hK => ?_) AllReadyH.nil)
            refine wp_append_run (.tmp 10) (.tmp 15) 23 rfl _ _ _ _ rfl rfl hrun25 ?_
            refine hK.out _ _ trivial (fun _ => ?_)
            clear hK K
            try simp only [Act.put, List.setIfInBounds_toArray, List.set_cons_zero, List.set_cons_succ]
            refine wpAnyH_take (i := 10) (oi := { dst := some 18, op := Op.indexAddr 24 (Operand.tmp 17) (Operand.const (Value.int IntKind.i64 0)), type := 0, pos := "law.go:19", after := #[{ on := 9, ground := Ground.data }, { on := 0, ground := Ground.phase }, { on := 1, ground := Ground.phase }, { on := 2, ground := Ground.phase }, { on := 3, ground := Ground.phase }, { on := 4, ground := Ground.phase }, { on := 5, ground := Ground.phase }, { on := 6, ground := Ground.phase }, { on := 7, ground := Ground.phase }, { on := 8, ground := Ground.phase }], guard := none }) (v := ?_) rfl (by kernel_rfl) (by kernel_rfl) (by kernel_rfl) (fun _ _ _ h => h) (Or.inl ⟨by rfl, ?hy27⟩) trivial ?_
            case hy27 => (intro V hSw; (try dsimp only at hSw); clear hSw; go_simp; try with_reducible rfl)
            try simp only [Act.put, List.setIfInBounds_toArray, List.set_cons_zero, List.set_cons_succ]
            refine wpAnyH_ready (rs := [11]) (by kernel_rfl) (by simp) (AllReadyH.cons rfl (fun K hK => ?_) AllReadyH.nil)
            have pc28 := (cell_of_blk hvt25 0).trans (show _ = some (.slice xa z xc) from rfl)
            have pz28 := frozen_of_blk hvt25 0
            go_simp
            clear pc28 pz28
            refine hK.out _ _ trivial (fun _ => ?_)
            clear hK K
            try simp only [Act.put, List.setIfInBounds_toArray, List.set_cons_zero, List.set_cons_succ]
            refine wpAnyH_done (by kernel_rfl) ?_ _
            go_wp2_with fail
            go_roundw
            case rel => exact ⟨z + 1, by omega, by go_num, ya25, yc25, _, HFn25.out⟩
            case measure => simp [intOf]; omega
    · obtain rfl : z = 3 := by omega
      obtain ⟨h1, h2, h3, h4, h5, h6⟩ := aw17_facts (x := .slice xa 3 xc) hrows
      have hN := next_any (awV (.slice xa 3 xc) rows) wo (awV_is hms) h1 h2 (Ht.out.below hb)
      rw [awV_cells, h3] at hN
      have HN := Lib.hid hN
      have H4 := Lib.hid h4
      have H5 := Lib.hid h5
      have H6 := Lib.hid h6
      have Hb := Lib.hid hb
      have z0 := (cell_of_blk hv 0).trans (show _ = some (.slice xa 3 xc) from rfl)
      have z1 := (cell_of_blk hv 1).trans (show _ = some (.slice none 0 0) from rfl)
      have z2 := (cell_of_blk hv 2).trans (show _ = some (.slice none 0 0) from rfl)
      have z3 := (cell_of_blk hv 3).trans (show _ = some (.slice none 0 0) from rfl)
      clear hv hms hrows hb h1 h2 h3 h4 h5 h6 hN HI hsz
      go_wp2_with fail
      refine HN.out.mono ?_
      rintro e w2 q
      obtain ⟨cs, b, rfl, ⟨rfl, ua, un, uc, la, ln, lc, e1, ⟨hup, -⟩, -⟩, hb2⟩ := q.out
      subst e1
      rw [H4.out, H5.out]
      rw [H6.out] at hup
      obtain ⟨hul, huc, hum, hux⟩ := hup.at
      obtain ⟨ub, uo, rfl, hcell⟩ := hux (by rw [hul]; decide)
      have hun : un = 1 := hul
      subst hun
      have u0 : w2.cell? ⟨ub, uo, none⟩ = some (.int .i64 2) := by have := hcell 0 2 rfl 0 _ rfl; exact this
      have Hb2 := Lib.hid (Hb.out.trans (hb2.mono Hb.out.size))
      have Ht2 := Lib.hid (Ht.out.below Hb2.out)
      have u1 := (((Below.refl w2.heap.size w2).alloc (Nat.le_refl _) (.cells #[.int .i64 0, .int .i64 1, .slice (some ⟨ub, uo, none⟩) 1 uc, .slice la ln lc, .string (planP (awV (.slice xa 3 xc) rows).l 0).upto] 34)).cell (block_lt_of_cell u0)).trans u0
      have Hb3 := Lib.hid (Hb2.out.alloc Hb2.out.size (.cells #[.int .i64 0, .int .i64 1, .slice (some ⟨ub, uo, none⟩) 1 uc, .slice la ln lc, .string (planP (awV (.slice xa 3 xc) rows).l 0).upto] 34))
      have Ht3 := Lib.hid (Ht.out.below Hb3.out)
      generalize (planP (awV (.slice xa 3 xc) rows).l 0).upto = upt at *
      clear q hb2 hup hux hcell hul u0 z0 z1 z2 z3
      have hM0 := most_any 0 _ Ht3.out
      have hM3 := most_any 3 _ Ht3.out
      rw [show mostP 0 = 2 from rfl] at hM0
      rw [show mostP 3 = -1 from rfl] at hM3
      have HM0 := Lib.hid hM0
      have HM3 := Lib.hid hM3
      clear hM0 hM3
      go_wp2_with fail
      refine HM0.out.mono ?_
      rintro e wx ⟨rfl, rfl⟩
      go_wp2_with fail
      refine HM3.out.mono ?_
      rintro e wx ⟨rfl, rfl⟩
      go_wp2_with fail
      go_ret
      exact ⟨rfl, Hb3.out⟩
end Go.Proofs.YtcmndnglmpkpdaaDoor.Tithe
