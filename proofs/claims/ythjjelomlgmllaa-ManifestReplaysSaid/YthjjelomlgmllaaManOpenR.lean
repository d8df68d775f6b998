/- The readings of records that come in. -/
import Derived.Test.YthjjelomlgmllaaLevOpen
import Derived.Test.YthjjelomlgmllaaManZone
namespace Go.Proofs.Ythjjelomlgmllaa.Tithe
open Go.RowKit Go.ChangeShapes Go.WideShapes Go.ChangeAt
set_option linter.unusedVariables false
set_option maxRecDepth 100000
/-- a record's values and what they are -/
structure Rv where
  wh : Bool
  s : Int
  vl : Value
  va : Value
  vd : Value
  ls : List Int
  ad : List (Int × Mr)
  dr : List Int
def Rv.nil : Rv := ⟨false, 0, .slice none 0 0, .slice none 0 0, .slice none 0 0, [], [], []⟩
instance : Inhabited Rv := ⟨Rv.nil⟩
def rcC (r : Rv) : List Value := [.bool r.wh, .int .i64 r.s, r.vl, r.va, r.vd]
theorem rcC_len (r : Rv) : (rcC r).length = 5 := rfl
def RcIn (w : World) (r : Rv) : Prop := IsZs w r.vl r.ls ∧ IsZs w r.vd r.dr ∧ IsPl w r.va r.ad
section
variable {H : Type} {enc : TypeId × Value → H} {w : World} {base : Nat} {sp : Nat → Bool} {held : Bool}
theorem rec_row (m : Nat) (row : List Value) (y : DataW H × List MemPlace) (h : DataW.trod enc Try.prog w base sp held m 27 row = some y) : ∃ q : Rv, row = rcC q ∧ RcIn w q := by
  obtain ⟨xs, n, _, _, hl, hxl, hf⟩ := DataW.trod_struct Try.underlying27 h
  have hl2 : row.length = 5 := hl.trans (by kernel_rfl)
  match row, hl2 with
  | [c0, c1, c2, c3, c4], _ =>
    have f0 := hf 0 _ rfl
    have f1 := hf 1 _ rfl
    have f2 := hf 2 _ rfl
    have f3 := hf 3 _ rfl
    have hx : xs.length = 4 := hxl
    rw [List.getElem?_eq_getElem (by omega)] at f0 f1 f2 f3
    obtain ⟨b0, e0, -⟩ := DataW.trod_bool Try.underlying4 f0
    obtain ⟨z1, e1, -, -⟩ := DataW.trod_int Try.underlying3 f1
    obtain ⟨vl, ls, e2, hz, -⟩ := isSl_cellsQ dzC (fun _ => True) 1 (by decide) dzC_len Try.underlying22 (by kernel_rfl) dz_in f2
    obtain ⟨q, e3, hq⟩ := ed_in _ _ _ f3
    have k0 : Try.prog.cellsOf 4 = 1 := by kernel_rfl
    have k1 : Try.prog.cellsOf 3 = 1 := by kernel_rfl
    have k2 : Try.prog.cellsOf 22 = 1 := by kernel_rfl
    have k3 : Try.prog.cellsOf 25 = 2 := by kernel_rfl
    simp [k0, k1, k2, k3, edC] at e0 e1 e2 e3
    obtain ⟨e3, e4⟩ := e3
    subst e0 e1 e2 e3 e4
    exact ⟨⟨b0, z1, _, q.va, q.vd, ls, q.ps, q.zs⟩, rfl, hz, hq.2, hq.1⟩
end
/-- rows of records -/
def IsRc (w : World) (v : Value) (l : List Rv) : Prop := IsSl rcC 5 w v l ∧ ∀ x ∈ l, RcIn w x
theorem isRc_in {H : Type} {enc : TypeId × Value → H} {w : World} {base : Nat} {v : Value} {d : DataW H} {p : List MemPlace}
    (hv : Value.okWide Try.prog w .any base 57 v) (h : DataW.Trod enc Try.prog w 0 (fun _ => true) true 57 v d p) : ∃ l, IsRc w v l :=
  isSl_inQ rcC (RcIn w) 5 (by decide) rcC_len Try.underlying57 (by kernel_rfl) rec_row hv h
theorem rec_in {H : Type} {enc : TypeId × Value → H} {w : World} {base : Nat} {v : Value} {d : DataW H} {p : List MemPlace}
    (hv : Value.okWide Try.prog w .any base 27 v) (h : DataW.Trod enc Try.prog w 0 (fun _ => true) true 27 v d p) : ∃ r : Rv, v = .agg (rcC r).toArray ∧ RcIn w r := by
  obtain ⟨cs, m, rfl, hf⟩ := agg_row Try.underlying27 hv h
  obtain ⟨r, e, hr⟩ := rec_row _ _ _ hf
  exact ⟨r, by rw [show cs = (rcC r).toArray from Array.toList_inj.1 e], hr⟩
end Go.Proofs.Ythjjelomlgmllaa.Tithe
