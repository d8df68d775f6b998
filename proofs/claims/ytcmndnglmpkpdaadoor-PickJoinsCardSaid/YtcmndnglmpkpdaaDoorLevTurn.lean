/- Law 15: a meta turned into the document's form: walked. -/
import Derived.Test.YtcmndnglmpkpdaaDoorLevRight
import Derived.Test.YtcmndnglmpkpdaaDoorRowEdit
import Derived.Deep.RegionHeld3
namespace Go.Proofs.YtcmndnglmpkpdaaDoor.Tithe
open Go.RowKit Go.Sort Go.Shelf
set_option linter.unusedVariables false
set_option linter.unusedSimpArgs false
set_option maxRecDepth 100000
theorem ref15Info : (Tryd.prog.info? 76).map (fun i => (i.zero, i.size, i.bytes)) = some (some (.agg #[.int .i64 0, .int .i64 0]), 2, 16) := by kernel_rfl
theorem mt15Info : (Tryd.prog.info? 73).map (·.size) = some 9 := by kernel_rfl
abbrev OwnRx (W : World) (base : Nat) (v : Value) (l : List (Int × Int)) : Prop := W.ownsRow base 76 2 v l.length (flat rfC l)
theorem keep9 {V : World} {b b' : Nat} {ob : Obj} (hne : b' ≠ b) (h : V.heap[b']? = some ob) (x0 x1 x2 x3 x4 x5 x6 x7 x8 : Value) : (((((((((V.setCell ⟨b, 0, none⟩ x0).setCell ⟨b, 1, none⟩ x1).setCell ⟨b, 2, none⟩ x2).setCell ⟨b, 3, none⟩ x3).setCell ⟨b, 4, none⟩ x4).setCell ⟨b, 5, none⟩ x5).setCell ⟨b, 6, none⟩ x6).setCell ⟨b, 7, none⟩ x7).setCell ⟨b, 8, none⟩ x8).heap[b']? = some ob := by
  iterate 9 refine (Below.heap_setCell _ ⟨b, _, none⟩ _ _ hne).trans ?_
  exact h
theorem below9 {w V : World} {b B : Nat} (h : Below B w V) (hb : B ≤ b) (x0 x1 x2 x3 x4 x5 x6 x7 x8 : Value) : Below B w (((((((((V.setCell ⟨b, 0, none⟩ x0).setCell ⟨b, 1, none⟩ x1).setCell ⟨b, 2, none⟩ x2).setCell ⟨b, 3, none⟩ x3).setCell ⟨b, 4, none⟩ x4).setCell ⟨b, 5, none⟩ x5).setCell ⟨b, 6, none⟩ x6).setCell ⟨b, 7, none⟩ x7).setCell ⟨b, 8, none⟩ x8) := by
  iterate 9 refine Below.setCell (p := ⟨b, _, none⟩) ?_ hb _
  exact h
/-- one more -/
theorem push_rx (W0 : World) (base : Nat) (xa : Option Addr) (k xc : Nat) (l : List (Int × Int)) (x y : Int) (hk : k = l.length) (h : OwnRx W0 base (.slice xa k xc) l) (hl : k ≤ 1000000) (hb : base ≤ W0.heap.size) :
    ∃ ya yc w2, (Builtin.append_ #[71, 71] 71 #[.slice xa k xc, .slice (some ⟨W0.heap.size, 0, none⟩) 1 1]).run Tryd.prog (W0.alloc (.cells #[.int .i64 x, .int .i64 y] 76)) = .ok (.slice ya (k + 1) yc) w2 ∧
      OwnRx w2 base (.slice ya (k + 1) yc) (l ++ [(x, y)]) ∧ (W0.alloc (.cells #[.int .i64 x, .int .i64 y] 76)).grownBy w2 (Value.slice xa k xc).ownBlock := by
  subst hk
  obtain ⟨i0, hi0, hz0, hz1, hz2⟩ := info_partsL ref15Info
  have h' : OwnRx (W0.alloc (.cells #[.int .i64 x, .int .i64 y] 76)) base (.slice xa l.length xc) l := own_below h ((Below.refl _ _).alloc (Nat.le_refl _) _)
  obtain ⟨g, yc, w2, hrun, hown, hg, hlies, -⟩ := run_append_lies (P := Tryd.prog) (W0.alloc (.cells #[.int .i64 x, .int .i64 y] 76)) 71 71 base 76 i0 (.agg #[.int .i64 0, .int .i64 0]) 2 16 Tryd.underlying71 hi0 hz0 hz1 hz2 rfl (by decide)
    (.slice xa l.length xc) l.length (flat rfC l) h' ⟨W0.heap.size, 0, none⟩ 1 1 (rfC (x, y)) rfl (newsL _ _ rfl _ _ rfl) (by intro u hu; simp [rfC] at hu; rcases hu with rfl | rfl <;> rfl) (by omega) (by unfold maxLen; omega) (by omega) (by simp; omega) _ rfl
  refine ⟨_, yc, w2, hrun, ?_, hg⟩
  unfold OwnRx
  rw [List.length_append, flat_append, flat_one]
  exact hown
end Go.Proofs.YtcmndnglmpkpdaaDoor.Tithe
