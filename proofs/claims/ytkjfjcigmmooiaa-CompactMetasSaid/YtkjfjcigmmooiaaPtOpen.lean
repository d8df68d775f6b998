/- The reading of a slice of pointers that comes in. -/
import Derived.Test.YtkjfjcigmmooiaaEntOpen
import Derived.Test.YtkjfjcigmmooiaaCompactMetas
namespace Go.Proofs.Ytkjfjcigmmooiaa.Tithe
open Go.ChangeShapes Go.WideShapes Go.ChangeAt Go.RowKit
set_option linter.unusedVariables false
set_option maxRecDepth 100000
theorem pt_in {H : Type} {enc : TypeId × Value → H} {w : World} {base : Nat} {sp : Nat → Bool} {held : Bool} (m : Nat) (row : List Value) (y : DataW H × List MemPlace) (h : DataW.trod enc Try.prog w base sp held m 39 row = some y) : ∃ q : Pt, row = ptC q := by
  obtain ⟨xs, n, _, _, hl, hxl, hf⟩ := DataW.trod_struct Try.underlying39 h
  have hl2 : row.length = 3 := hl.trans (by kernel_rfl)
  match row, hl2 with
  | [c0, c1, c2], _ =>
    have f0 := hf 0 _ rfl
    have f1 := hf 1 _ rfl
    have f2 := hf 2 _ rfl
    have hx : xs.length = 3 := hxl
    rw [List.getElem?_eq_getElem (by omega)] at f0 f1 f2
    obtain ⟨z0, e0, -, -⟩ := DataW.trod_int Try.underlying3 f0
    obtain ⟨z1, e1, -, -⟩ := DataW.trod_int Try.underlying3 f1
    obtain ⟨z2, e2, -, -⟩ := DataW.trod_int Try.underlying3 f2
    have k0 : Try.prog.cellsOf 3 = 1 := by kernel_rfl
    simp [k0] at e0 e1 e2
    subst e0 e1 e2
    exact ⟨(z0, z1, z2), rfl⟩
instance : Inhabited Pt := ⟨Pt.nil⟩
theorem isPt_in {H : Type} {enc : TypeId × Value → H} {w : World} {base : Nat} {v : Value} {d : DataW H} {p : List MemPlace}
    (hv : Value.okWide Try.prog w .any base 34 v) (h : DataW.Trod enc Try.prog w 0 (fun _ => true) true 34 v d p) : ∃ l, IsPt w v l :=
  isSl_in ptC 3 (by decide) ptC_len Try.underlying34 (by kernel_rfl) pt_in hv h
end Go.Proofs.Ytkjfjcigmmooiaa.Tithe
