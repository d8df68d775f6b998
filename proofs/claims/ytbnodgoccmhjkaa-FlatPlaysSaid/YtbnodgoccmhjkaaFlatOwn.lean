/- Writes of a call's own: pushed; a model made; ref: walked. -/
import Derived.Test.YtbnodgoccmhjkaaFlatRows
namespace Go.Proofs.Ytbnodgoccmhjkaa.Tithe
open Go.RowKit Go.Sort Go.Shelf
set_option linter.unusedVariables false
set_option linter.unusedSimpArgs false
set_option maxRecDepth 100000
/-- rows of rows of ops, of a call's own -/
structure OwnRs (T O : TypeId) (W : World) (base : Nat) (v : Value) (rows : List Wr) : Prop where
  out : W.ownsRow base T 1 v rows.length (flat wrC rows)
  row : ∀ r ∈ rows, W.ownsRow base O 3 r.1 r.2.length (flat Bo.cells r.2)
theorem OwnRs.isWs {T O : TypeId} {W : World} {base : Nat} {v : Value} {rows : List Wr} (h : OwnRs T O W base v rows) : IsWs W v rows := ⟨isSl_own wrC_len h.out, fun r hr => isSl_own bo_len (h.row r hr)⟩
theorem OwnRs.below {T O : TypeId} {W W' : World} {base : Nat} {v : Value} {rows : List Wr} (h : OwnRs T O W base v rows) (hb : Below W.heap.size W W') : OwnRs T O W' base v rows := ⟨own_below h.out hb, fun r hr => own_below (h.row r hr) hb⟩
theorem OwnRs.nil (T O : TypeId) (W : World) (base : Nat) : OwnRs T O W base (.slice none 0 0) [] := ⟨World.ownsRow_nil _ _ _ _, fun r hr => by cases hr⟩
theorem OwnRs.far {T O : TypeId} {W : World} {base b i : Nat} {x v : Value} {rows : List Wr} (h : OwnRs T O W base v rows) (hb : b < base) : OwnRs T O (W.setCell ⟨b, i, none⟩ x) base v rows :=
  ⟨own_far h.out (grown_set W b i x) (fun r e => by cases e; exact hb), fun r hr => own_far (h.row r hr) (grown_set W b i x) (fun r e => by cases e; exact hb)⟩
theorem push_rs {T O TS : TypeId} (ht : Try.prog.underlying TS = some (.slice T)) (hinfo : (Try.prog.info? T).map (fun i => (i.zero, i.size, i.bytes)) = some (some (.slice none 0 0), 1, 24)) (hne : T ≠ O)
    (W : World) (base : Nat) (v : Value) (rows : List Wr) (r : Wr) (h : OwnRs T O W base v rows) (hr : W.ownsRow base O 3 r.1 r.2.length (flat Bo.cells r.2)) (h1 : r.1.oneCell' = true) (hl : rows.length ≤ 100000) (hb : base ≤ W.heap.size) :
    ∃ (a' : Option Addr) (c' : Nat) (w2 : World), (Builtin.append_ #[TS, TS] TS #[v, .slice (some ⟨W.heap.size, 0, none⟩) 1 1]).run Try.prog (W.alloc (.cells #[r.1] T)) = .ok (.slice a' (rows.length + 1) c') w2 ∧ OwnRs T O w2 base (.slice a' (rows.length + 1) c') (rows ++ [r]) ∧ Below base W w2 ∧ (∀ (b : Nat) (o : Obj), W.heap[b]? = some o → (∀ cs fr, o ≠ .cells cs T fr) → w2.heap[b]? = some o) := by
  obtain ⟨i0, hi0, hz0, hz1, hz2⟩ := info_partsO hinfo
  have hal : Below W.heap.size W (W.alloc (.cells #[r.1] T)) := (Below.refl _ _).alloc (Nat.le_refl _) _
  have h' := h.below hal
  have hr' := own_below hr hal
  obtain ⟨g, yc, w2, hrun, hown, hg, hlies, -⟩ := run_append_lies (P := Try.prog) (W.alloc (.cells #[r.1] T)) TS TS base T i0 (.slice none 0 0) 1 24 ht hi0 hz0 hz1 hz2 rfl (by decide)
    v rows.length (flat wrC rows) h'.out ⟨W.heap.size, 0, none⟩ 1 1 (wrC r) rfl (newsL _ _ rfl _ _ rfl) (by intro u hu; simp [wrC] at hu; rw [hu]; exact h1) (by omega) (by unfold maxLen; omega) (by omega) (Nat.le_trans hb hal.size) _ rfl
  have hty : ∀ g, v.ownBlock = some g → ∃ cur t fr, (W.alloc (.cells #[r.1] T)).heap[g]? = some (.cells cur t fr) ∧ t ≠ O := fun g e => by
    obtain ⟨cur, hc⟩ := own_rowblk h'.out g e
    exact ⟨cur, T, (0, 0), hc, hne⟩
  refine ⟨some ⟨g, 0, none⟩, yc, w2, hrun, ⟨?_, fun q hq => ?_⟩, (hal.mono hb).trans ((Below.refl base _).grown hg (Nat.le_trans hb hal.size) (fun g e => (h'.out.lt g e).1)), fun b o hbo hty2 => ?_⟩
  · rw [List.length_append, flat_append, flat_one]
    exact hown
  · rcases List.mem_append.1 hq with hq | hq
    · exact own_typed (h'.row q hq) hg hty
    · rw [List.mem_singleton.1 hq]
      exact own_typed hr' hg hty
  · have h3 := blk_old hbo (.cells #[r.1] T)
    refine (hg.block b (blk_lt h3) (fun e => ?_)).trans h3
    obtain ⟨cur, hc⟩ := own_rowblk h'.out b e.symm
    rw [h3] at hc
    injection hc with hc
    exact hty2 _ _ hc
theorem wrInfo : (Try.prog.info? 37).map (fun i => (i.zero, i.size, i.bytes)) = some (some (.slice none 0 0), 1, 24) := by kernel_rfl
theorem wrInfo10 : (Try.prog.info? 68).map (fun i => (i.zero, i.size, i.bytes)) = some (some (.slice none 0 0), 1, 24) := by kernel_rfl
theorem boInfo10 : (Try.prog.info? 70).map (fun i => (i.zero, i.size, i.bytes)) = some (some (.agg #[.int .i64 0, .string ⟨#[]⟩, .string ⟨#[]⟩]), 3, 40) := by kernel_rfl
abbrev OwnMw := OwnRs 37 40
abbrev OwnXw := OwnRs 68 70
/-- rows of the document's ops -/
abbrev OwnRo (W : World) (base : Nat) (v : Value) (l : List Bo) : Prop := W.ownsRow base 70 3 v l.length (flat Bo.cells l)
theorem push_ro (W0 : World) (base : Nat) (xa : Option Addr) (rl xc : Nat) (l : List Bo) (x : Bo) (h : OwnRo W0 base (.slice xa rl xc) l) (hl : rl ≤ 1000000) (hb : base ≤ W0.heap.size) :
    ∃ ya yc w2, (Builtin.append_ #[68, 68] 68 #[.slice xa rl xc, .slice (some ⟨W0.heap.size, 0, none⟩) 1 1]).run Try.prog (W0.alloc (.cells #[.int .i64 x.k, .string x.u, .string x.v] 70)) = .ok (.slice ya (rl + 1) yc) w2 ∧
      OwnRo w2 base (.slice ya (rl + 1) yc) (l ++ [x]) ∧ (W0.alloc (.cells #[.int .i64 x.k, .string x.u, .string x.v] 70)).grownBy w2 (Value.slice xa rl xc).ownBlock := by
  obtain ⟨i0, hi0, hz0, hz1, hz2⟩ := info_partsO boInfo10
  have h' : OwnRo (W0.alloc (.cells #[.int .i64 x.k, .string x.u, .string x.v] 70)) base (.slice xa rl xc) l := own_below h ((Below.refl _ _).alloc (Nat.le_refl _) _)
  have hrl : rl = l.length := by
    rcases h.2 with ⟨e, h⟩ | ⟨g, cap, cur, e, -⟩
    · injection e with _ e _; rw [e, h]
    · injection e with _ e _
  obtain ⟨g, yc, w2, hrun, hown, hg, hlies, -⟩ := run_append_lies (P := Try.prog) (W0.alloc (.cells #[.int .i64 x.k, .string x.u, .string x.v] 70)) 68 68 base 70 i0 (.agg #[.int .i64 0, .string ⟨#[]⟩, .string ⟨#[]⟩]) 3 40 Try.underlying68 hi0 hz0 hz1 hz2 rfl (by decide)
    (.slice xa rl xc) l.length (flat Bo.cells l) h' ⟨W0.heap.size, 0, none⟩ 1 1 (Bo.cells x) rfl (newsL _ _ rfl _ _ rfl) (bo_one x) (by omega) (by unfold maxLen; omega) (by omega) (by simp; omega) _ rfl
  refine ⟨some ⟨g, 0, none⟩, yc, w2, by rw [hrl] at hrun ⊢; exact hrun, ?_, hg⟩
  rw [hrl]
  unfold OwnRo
  rw [List.length_append, flat_append, flat_one]
  exact hown
attribute [local go_sem] Oper.semAt_some
set_option maxHeartbeats 3200000 in
theorem refo_any (v : Value) (l : List Bo) (w : World) (h : IsOs w v l) (hl : l.length ≤ 100000) :
    Calls Try.prog 27 #[v] w fun e w' => ∃ v', e = .returned v' ∧ OwnRo w' w.heap.size v' l ∧ Below w.heap.size w w' := by
  obtain ⟨a, c, rfl, -, -, -⟩ := id h
  obtain ⟨-, hc, hm, hx⟩ := h.at
  obtain ⟨n, hn⟩ : ∃ n, n = l.length := ⟨_, rfl⟩
  rw [← hn] at hc hx hl ⊢
  have Hx := Lib.hid hx
  have Hn := Lib.hid hn
  clear h hx hn
  go_enter Try.func27, Try.ntmps27
  go_wp2_with fail
  go_loopw [3, 8] (fun ov iv wr => ∃ k : Nat, k ≤ n ∧ iv = .int .i64 k ∧ ∃ oa oc, ov = .slice oa k oc ∧ OwnRo wr w.heap.size (.slice oa k oc) (l.take k) ∧ Below w.heap.size w wr) (fun _ iv _ => n - (intOf iv).toNat)
  case atStart => exact ⟨0, Nat.zero_le _, rfl, none, 0, rfl, World.ownsRow_nil _ _ _ _, Below.refl _ _⟩
  case round =>
    obtain ⟨wo, rfl⟩ : ∃ wo : World, wo = wr := ⟨_, rfl⟩
    obtain ⟨k, hk, rfl, oa, oc, rfl, hown, hb⟩ := hrel
    have Hb := Lib.hid hb
    have Hown := Lib.hid hown
    clear hb hown
    by_cases hkn : k < n
    · obtain ⟨b, off, rfl, hcell⟩ := Hx.out (by omega)
      obtain ⟨x, hxk⟩ : ∃ x, l[k]? = some x := ⟨_, List.getElem?_eq_getElem (by rw [← Hn.out]; exact hkn)⟩
      obtain ⟨d0, d1, d2⟩ := IsOs.row (w := wo) (fun i x hi j y hj => (Hb.out.cell (block_lt_of_cell (hcell i x hi j y hj))).trans (hcell i x hi j y hj)) hxk
      have htk : l.take (k + 1) = l.take k ++ [x] := by rw [List.take_add_one, hxk]; rfl
      have Htk := Lib.hid htk
      clear hcell hxk htk
      obtain ⟨kd, u, val⟩ := x
      dsimp only at d0 d1 d2
      have hA : Below wo.heap.size wo (wo.alloc (.cells #[.int .i64 kd, .string u, .string val] 40)) := (Below.refl _ _).alloc (Nat.le_refl _) _
      have HS := Lib.hid (blk_of_alloc wo (.cells #[.int .i64 kd, .string u, .string val] 40))
      have HbW := Lib.hid (Hb.out.trans (hA.mono Hb.out.size))
      have HoW := Lib.hid (own_below Hown.out hA)
      obtain ⟨sb, hsb⟩ : ∃ o, o = wo.heap.size := ⟨_, rfl⟩
      have Hsb := Lib.hid hsb
      rw [← hsb] at HS
      clear hA hsb
      go_upto_region 5 with fail
      rw [← Hsb.out]
      generalize wo.alloc (.cells #[.int .i64 kd, .string u, .string val] 40) = W at *
      clear Hsb d0 d1 d2
      obtain ⟨ya, yc, w2, hrun, hown2, hg2⟩ := push_ro W w.heap.size oa k oc (l.take k) ⟨kd, u, val⟩ HoW.out (by omega) HbW.out.size
      dsimp only at hrun hg2
      have Ho2 : Hid (OwnRo w2 w.heap.size (.slice ya (k + 1) yc) (l.take (k + 1))) := Lib.hid (by rw [Htk.out]; exact hown2)
      have Hb2 : Hid (Below w.heap.size w w2) := Lib.hid ((HbW.out.alloc HbW.out.size _).grown hg2 (Nat.le_trans HbW.out.size (by simp)) (fun g e => (HoW.out.lt g e).1))
      have e0 := (cell_of_blk HS.out 0).trans (show _ = some (.int .i64 kd) from rfl)
      have e1 := (cell_of_blk HS.out 1).trans (show _ = some (.string u) from rfl)
      have e2 := (cell_of_blk HS.out 2).trans (show _ = some (.string val) from rfl)
      clear hown2 hg2
      go_wp2_with (at_builtin; first | (refine wpList_val rfl _ _ (run_append_op (.tmp 12) (.tmp 20) 68 68 rfl rfl rfl hrun) ?_) | (refine wpList_val rfl _ _ (run_append_op (.tmp 12) (.tmp 20) 68 68 rfl (by simp) (by simp) hrun) ?_))
      go_roundw
      case rel => exact ⟨k + 1, by omega, by go_num, ya, yc, rfl, Ho2.out, Hb2.out⟩
      case measure => simp [intOf]; omega
    · obtain rfl : n = k := by omega
      go_wp2_with fail
      go_ret
      refine ⟨_, rfl, ?_, Hb.out⟩
      have := Hown.out
      rw [Hn.out, List.take_length] at this
      rw [Hn.out]
      exact this
end Go.Proofs.Ytbnodgoccmhjkaa.Tithe
