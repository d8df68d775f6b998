/- Chapter 19's ref: entries as the document's: walked. -/
import Derived.Test.YtkjfjcigmmooiaaEntVer
import Derived.Test.YtkjfjcigmmooiaaEntSeen
namespace Go.Proofs.Ytkjfjcigmmooiaa.Tithe
open Go.RowKit Go.Sort Go.Shelf
set_option linter.unusedVariables false
set_option linter.unusedSimpArgs false
set_option maxRecDepth 100000
theorem reInfo : (Try.prog.info? 67).map (fun i => (i.zero, i.size, i.bytes)) = some (some (.agg #[.string ⟨#[]⟩, .int .i64 0, .int .i64 0, .string ⟨#[]⟩]), 4, 48) := by kernel_rfl
/-- rows of the document's entries, of a call's own -/
abbrev OwnRe (W : World) (base : Nat) (v : Value) (l : List En) : Prop := W.ownsRow base 67 4 v l.length (flat En.cells l)
theorem push_re (W0 : World) (base : Nat) (xa : Option Addr) (rl xc : Nat) (l : List En) (x : En) (h : OwnRe W0 base (.slice xa rl xc) l) (hl : rl ≤ 1000000) (hb : base ≤ W0.heap.size) :
    ∃ ya yc w2, (Builtin.append_ #[62, 62] 62 #[.slice xa rl xc, .slice (some ⟨W0.heap.size, 0, none⟩) 1 1]).run Try.prog (W0.alloc (.cells #[.string x.key.u, .int .i64 x.key.s, .int .i64 x.key.k, .string x.val] 67)) = .ok (.slice ya (rl + 1) yc) w2 ∧
      OwnRe w2 base (.slice ya (rl + 1) yc) (l ++ [x]) ∧ (W0.alloc (.cells #[.string x.key.u, .int .i64 x.key.s, .int .i64 x.key.k, .string x.val] 67)).grownBy w2 (Value.slice xa rl xc).ownBlock := by
  obtain ⟨i0, hi0, hz0, hz1, hz2⟩ := info_partsL reInfo
  have h' : OwnRe (W0.alloc (.cells #[.string x.key.u, .int .i64 x.key.s, .int .i64 x.key.k, .string x.val] 67)) base (.slice xa rl xc) l := own_below h ((Below.refl _ _).alloc (Nat.le_refl _) _)
  have hrl : rl = l.length := by
    rcases h.2 with ⟨e, h⟩ | ⟨g, cap, cur, e, -⟩
    · injection e with _ e _; rw [e, h]
    · injection e with _ e _
  obtain ⟨g, yc, w2, hrun, hown, hg, hlies, -⟩ := run_append_lies (P := Try.prog) (W0.alloc (.cells #[.string x.key.u, .int .i64 x.key.s, .int .i64 x.key.k, .string x.val] 67)) 62 62 base 67 i0 (.agg #[.string ⟨#[]⟩, .int .i64 0, .int .i64 0, .string ⟨#[]⟩]) 4 48 Try.underlying62 hi0 hz0 hz1 hz2 rfl (by decide)
    (.slice xa rl xc) l.length (flat En.cells l) h' ⟨W0.heap.size, 0, none⟩ 1 1 (En.cells x) rfl (newsL _ _ rfl _ _ rfl) (by intro u hu; simp [En.cells] at hu; rcases hu with rfl | rfl | rfl | rfl <;> rfl) (by omega) (by unfold maxLen; omega) (by omega) (by simp; omega) _ rfl
  refine ⟨some ⟨g, 0, none⟩, yc, w2, by rw [hrl] at hrun ⊢; exact hrun, ?_, hg⟩
  rw [hrl]
  unfold OwnRe
  rw [List.length_append, flat_append, flat_one]
  exact hown
attribute [local go_sem] Oper.semAt_some
set_option maxHeartbeats 3200000 in
theorem refe_any (v : Value) (l : List En) (w : World) (h : IsEs w v l) (hl : l.length ≤ 100000) :
    Calls Try.prog 22 #[v] w fun e w' => ∃ v', e = .returned v' ∧ OwnRe w' w.heap.size v' l ∧ Below w.heap.size w w' := by
  obtain ⟨a, c, rfl, -, -, -⟩ := id h
  obtain ⟨-, hc, hm, hx⟩ := h.at
  obtain ⟨n, hn⟩ : ∃ n, n = l.length := ⟨_, rfl⟩
  rw [← hn] at hc hx hl ⊢
  have Hx := Lib.hid hx
  have Hn := Lib.hid hn
  clear h hx hn
  go_enter Try.func22, Try.ntmps22
  go_wp2_with fail
  go_loopw [3, 8] (fun ov iv wr => ∃ k : Nat, k ≤ n ∧ iv = .int .i64 k ∧ ∃ oa oc, ov = .slice oa k oc ∧ OwnRe wr w.heap.size (.slice oa k oc) (l.take k) ∧ Below w.heap.size w wr) (fun _ iv _ => n - (intOf iv).toNat)
  case atStart => exact ⟨0, Nat.zero_le _, rfl, none, 0, rfl, World.ownsRow_nil _ _ _ _, Below.refl _ _⟩
  case round =>
    obtain ⟨wo, rfl⟩ : ∃ wo : World, wo = wr := ⟨_, rfl⟩
    obtain ⟨k, hk, rfl, oa, oc, rfl, hown, hb⟩ := hrel
    have Hb := Lib.hid hb
    have Hown := Lib.hid hown
    clear hb hown
    by_cases hkn : k < n
    · obtain ⟨b, off, rfl, hcell⟩ := Hx.out (by omega)
      obtain ⟨x, hxk⟩ : ∃ x, l[k]? = some x := ⟨_, List.getElem?_eq_getElem (by rw [← Hn.out]; exact hkn)⟩
      obtain ⟨c0, c1, c2, c3⟩ := IsEs.row hcell hxk
      have d0 := (Hb.out.cell (block_lt_of_cell c0)).trans c0
      have d1 := (Hb.out.cell (block_lt_of_cell c1)).trans c1
      have d2 := (Hb.out.cell (block_lt_of_cell c2)).trans c2
      have d3 := (Hb.out.cell (block_lt_of_cell c3)).trans c3
      have htk : l.take (k + 1) = l.take k ++ [x] := by rw [List.take_add_one, hxk]; rfl
      have Htk := Lib.hid htk
      clear hcell hxk c0 c1 c2 c3 htk
      obtain ⟨⟨u, s, kd⟩, val⟩ := x
      dsimp only at d0 d1 d2 d3
      have hA : Below wo.heap.size wo (wo.alloc (.cells #[.string u, .int .i64 s, .int .i64 kd, .string val] 30)) := (Below.refl _ _).alloc (Nat.le_refl _) _
      have HS := Lib.hid (blk_of_alloc wo (.cells #[.string u, .int .i64 s, .int .i64 kd, .string val] 30))
      have HbW := Lib.hid (Hb.out.trans (hA.mono Hb.out.size))
      have HoW := Lib.hid (own_below Hown.out hA)
      obtain ⟨sb, hsb⟩ : ∃ o, o = wo.heap.size := ⟨_, rfl⟩
      have Hsb := Lib.hid hsb
      rw [← hsb] at HS
      clear hA hsb
      go_upto_region 5 with fail
      rw [← Hsb.out]
      generalize wo.alloc (.cells #[.string u, .int .i64 s, .int .i64 kd, .string val] 30) = W at *
      clear Hsb d0 d1 d2 d3
      obtain ⟨ya, yc, w2, hrun, hown2, hg2⟩ := push_re W w.heap.size oa k oc (l.take k) ⟨⟨u, s, kd⟩, val⟩ HoW.out (by omega) HbW.out.size
      dsimp only at hrun hg2
      have Ho2 : Hid (OwnRe w2 w.heap.size (.slice ya (k + 1) yc) (l.take (k + 1))) := Lib.hid (by rw [Htk.out]; exact hown2)
      have Hb2 : Hid (Below w.heap.size w w2) := Lib.hid ((HbW.out.alloc HbW.out.size _).grown hg2 (Nat.le_trans HbW.out.size (by simp)) (fun g e => (HoW.out.lt g e).1))
      have e0 := (cell_of_blk HS.out 0).trans (show _ = some (.string u) from rfl)
      have e1 := (cell_of_blk HS.out 1).trans (show _ = some (.int .i64 s) from rfl)
      have e2 := (cell_of_blk HS.out 2).trans (show _ = some (.int .i64 kd) from rfl)
      have e3 := (cell_of_blk HS.out 3).trans (show _ = some (.string val) from rfl)
      clear hown2 hg2
      go_wp2_with (at_builtin; first | (refine wpList_val rfl _ _ (run_append_op (.tmp 12) (.tmp 26) 62 62 rfl rfl rfl hrun) ?_) | (refine wpList_val rfl _ _ (run_append_op (.tmp 12) (.tmp 26) 62 62 rfl (by simp) (by simp) hrun) ?_))
      go_roundw
      case rel => exact ⟨k + 1, by omega, by go_num, ya, yc, rfl, Ho2.out, Hb2.out⟩
      case measure => simp [intOf]; omega
    · obtain rfl : k = n := by omega
      have Ho := Lib.hid Hown.out
      go_wp2_with fail
      go_ret
      refine ⟨_, rfl, ?_, Hb.out⟩
      have := Hown.out
      rw [Hn.out, List.take_length] at this
      rw [Hn.out]
      exact this
end Go.Proofs.Ytkjfjcigmmooiaa.Tithe
