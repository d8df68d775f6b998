/- The argument Kept: its reading. -/
import Derived.Test.YtkjfjcigmmooiaaEntOpen
import Derived.Test.YtkjfjcigmmooiaaEntSeen
import Derived.Test.YtkjfjcigmmooiaaEntVer
namespace Go.Proofs.Ytkjfjcigmmooiaa.Tithe
open Go.RowKit Go.ChangeShapes Go.WideShapes Go.ChangeAt
set_option linter.unusedVariables false
set_option maxRecDepth 100000
section
variable {H : Type} {enc : TypeId × Value → H} {w : World} {base : Nat} {sp : Nat → Bool} {held : Bool}
theorem zs_in (m : Nat) (row : List Value) (y : DataW H × List MemPlace) (h : DataW.trod enc Try.prog w base sp held m 3 row = some y) : ∃ q : Int, row = intC q := by
  obtain ⟨z0, e0, -, -⟩ := DataW.trod_int Try.underlying3 h
  exact ⟨z0, e0⟩
instance : Inhabited ByteArray := ⟨⟨#[]⟩⟩
theorem sx_in (m : Nat) (row : List Value) (y : DataW H × List MemPlace) (h : DataW.trod enc Try.prog w base sp held m 9 row = some y) : ∃ q : ByteArray, row = sxC q := by
  obtain ⟨z0, e0, -, -⟩ := DataW.trod_string Try.underlying9 h
  exact ⟨z0, e0⟩
theorem kept_row (m : Nat) (row : List Value) (y : DataW H × List MemPlace) (h : DataW.trod enc Try.prog w base sp held m 54 row = some y) : ∃ (v0 v1 v4 : Value) (l : List En) (zs : List Int) (a b : Int) (ss : List ByteArray), row = [v0, v1, .int .i64 a, .int .i64 b, v4] ∧ IsEs w v0 l ∧ IsZs w v1 zs ∧ IsSx w v4 ss := by
  obtain ⟨xs, n, _, _, hl, hxl, hf⟩ := DataW.trod_struct Try.underlying54 h
  have hl2 : row.length = 5 := hl.trans (by kernel_rfl)
  match row, hl2 with
  | [c0, c1, c2, c3, c4], _ =>
    have f0 := hf 0 _ rfl
    have f1 := hf 1 _ rfl
    have f2 := hf 2 _ rfl
    have f3 := hf 3 _ rfl
    have f4 := hf 4 _ rfl
    have hx : xs.length = 5 := hxl
    rw [List.getElem?_eq_getElem (by omega)] at f0 f1 f2 f3 f4
    obtain ⟨v0, l, e0, h0⟩ := isSl_cells En.cells 4 (by decide) en_len Try.underlying22 (by kernel_rfl) en_in f0
    obtain ⟨v1, zs, e1, h1⟩ := isSl_cells intC 1 (by decide) intC_len Try.underlying51 (by kernel_rfl) zs_in f1
    obtain ⟨a, e2, -, -⟩ := DataW.trod_int Try.underlying3 f2
    obtain ⟨b, e3, -, -⟩ := DataW.trod_int Try.underlying3 f3
    obtain ⟨v4, ss, e4, h4⟩ := isSl_cells sxC 1 (by decide) sxC_len Try.underlying52 (by kernel_rfl) sx_in f4
    have k0 : Try.prog.cellsOf 22 = 1 := by kernel_rfl
    have k1 : Try.prog.cellsOf 51 = 1 := by kernel_rfl
    have k2 : Try.prog.cellsOf 3 = 1 := by kernel_rfl
    have k3 : Try.prog.cellsOf 52 = 1 := by kernel_rfl
    simp [k0, k1, k2, k3] at e0 e1 e2 e3 e4
    subst e0 e1 e2 e3 e4
    exact ⟨_, _, _, l, zs, a, b, ss, rfl, h0, h1, h4⟩
end
theorem agg_row' {H : Type} {enc : TypeId × Value → H} {w : World} {base : Nat} {v : Value} {d : DataW H} {p : List MemPlace} {t : TypeId} {fs : Array Field} (hs : Try.prog.underlying t = some (.struct fs))
    (hv : Value.okWide Try.prog w .any base t v) (h : DataW.Trod enc Try.prog w 0 (fun _ => true) true t v d p) : ∃ cs m, v = .agg cs ∧ DataW.trod enc Try.prog w 0 (fun _ => true) true m t cs.toList = some (d, p) := by
  obtain ⟨cs, rfl, -⟩ := okWide_struct hs hv
  obtain ⟨fuel, hf⟩ := h
  exact ⟨cs, fuel, rfl, hf⟩
theorem kept_in {H : Type} {enc : TypeId × Value → H} {w : World} {base : Nat} {v : Value} {d : DataW H} {p : List MemPlace}
    (hv : Value.okWide Try.prog w .any base 54 v) (h : DataW.Trod enc Try.prog w 0 (fun _ => true) true 54 v d p) : ∃ (v0 v1 v4 : Value) (l : List En) (zs : List Int) (a b : Int) (ss : List ByteArray), v = .agg #[v0, v1, .int .i64 a, .int .i64 b, v4] ∧ IsEs w v0 l ∧ IsZs w v1 zs ∧ IsSx w v4 ss := by
  obtain ⟨cs, m, rfl, hf⟩ := agg_row' Try.underlying54 hv h
  obtain ⟨v0, v1, v4, l, zs, a, b, ss, e, hr⟩ := kept_row _ _ _ hf
  exact ⟨v0, v1, v4, l, zs, a, b, ss, by rw [show cs = #[v0, v1, .int .i64 a, .int .i64 b, v4] from Array.toList_inj.1 e], hr⟩
end Go.Proofs.Ytkjfjcigmmooiaa.Tithe
