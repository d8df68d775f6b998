/- The readings of metas, places and edits that come in. -/
import Derived.Test.YthjjelomlgmllaaSlOpen
import Derived.Test.YthjjelomlgmllaaLevAppC
namespace Go.Proofs.Ythjjelomlgmllaa.Tithe
open Go.RowKit Go.ChangeShapes Go.WideShapes Go.ChangeAt
set_option linter.unusedVariables false
set_option maxRecDepth 100000
instance : Inhabited Mr := ⟨Mr.nil⟩
instance : Inhabited Mt := ⟨Mt.nil⟩
section
variable {H : Type} {enc : TypeId × Value → H} {w : World} {base : Nat} {sp : Nat → Bool} {held : Bool}
theorem k1i : Try.prog.cellsOf 3 = 1 := by kernel_rfl
theorem k3k : Try.prog.cellsOf 75 = 3 := by kernel_rfl
theorem k1r : Try.prog.cellsOf 76 = 1 := by kernel_rfl
theorem rf_in (m : Nat) (row : List Value) (y : DataW H × List MemPlace) (h : DataW.trod enc Try.prog w base sp held m 87 row = some y) : ∃ q : Int × Int, row = rfC q ∧ True := by
  obtain ⟨xs, n, _, _, hl, hxl, hf⟩ := DataW.trod_struct Try.underlying87 h
  have hl2 : row.length = 2 := hl.trans (by kernel_rfl)
  match row, hl2 with
  | [c0, c1], _ =>
    have f0 := hf 0 _ rfl
    have f1 := hf 1 _ rfl
    have hx : xs.length = 2 := hxl
    rw [List.getElem?_eq_getElem (by omega)] at f0 f1
    obtain ⟨z0, e0, -, -⟩ := DataW.trod_int Try.underlying3 f0
    obtain ⟨z1, e1, -, -⟩ := DataW.trod_int Try.underlying3 f1
    simp [k1i] at e0 e1
    subst e0 e1
    exact ⟨(z0, z1), rfl, trivial⟩
def MrIn (w : World) (r : Mr) : Prop := IsRr w r.2 r.1.refs
theorem mt_in (m : Nat) (row : List Value) (y : DataW H × List MemPlace) (h : DataW.trod enc Try.prog w base sp held m 78 row = some y) : ∃ q : Mr, row = mrC q ∧ MrIn w q := by
  obtain ⟨xs, n, _, _, hl, hxl, hf⟩ := DataW.trod_struct Try.underlying78 h
  have hl2 : row.length = 9 := hl.trans (by kernel_rfl)
  match row, hl2 with
  | [c0, c1, c2, c3, c4, c5, c6, c7, c8], _ =>
    have f0 := hf 0 _ rfl
    have f1 := hf 1 _ rfl
    have f2 := hf 2 _ rfl
    have f3 := hf 3 _ rfl
    have f4 := hf 4 _ rfl
    have hx : xs.length = 5 := hxl
    rw [List.getElem?_eq_getElem (by omega)] at f0 f1 f2 f3 f4
    obtain ⟨z0, e0, -, -⟩ := DataW.trod_int Try.underlying3 f0
    obtain ⟨z1, e1, -, -⟩ := DataW.trod_int Try.underlying3 f1
    obtain ⟨⟨u, s, k⟩, e2⟩ := key_in _ _ _ f2
    obtain ⟨⟨u', s', k'⟩, e3⟩ := key_in _ _ _ f3
    obtain ⟨v, l, e4, hi, -⟩ := isSl_cellsQ rfC (fun _ => True) 2 (by decide) rfC_len Try.underlying76 (by kernel_rfl) rf_in f4
    simp [k1i, k3k, k1r, Ky.cells] at e0 e1 e2 e3 e4
    obtain ⟨rfl, rfl, rfl⟩ := e2
    obtain ⟨rfl, rfl, rfl⟩ := e3
    subst e0 e1 e4
    exact ⟨(⟨z0, z1, ⟨u, s, k⟩, ⟨u', s', k'⟩, l⟩, _), rfl, hi⟩
instance : Inhabited (Int × Mr) := ⟨(0, Mr.nil)⟩
theorem pl_in (m : Nat) (row : List Value) (y : DataW H × List MemPlace) (h : DataW.trod enc Try.prog w base sp held m 80 row = some y) : ∃ q : Int × Mr, row = plC q ∧ MrIn w q.2 := by
  obtain ⟨xs, n, _, _, hl, hxl, hf⟩ := DataW.trod_struct Try.underlying80 h
  have hl2 : row.length = 10 := hl.trans (by kernel_rfl)
  match row, hl2 with
  | [c0, c1, c2, c3, c4, c5, c6, c7, c8, c9], _ =>
    have f0 := hf 0 _ rfl
    have f1 := hf 1 _ rfl
    have hx : xs.length = 2 := hxl
    rw [List.getElem?_eq_getElem (by omega)] at f0 f1
    obtain ⟨z0, e0, -, -⟩ := DataW.trod_int Try.underlying3 f0
    obtain ⟨q, e1, hq⟩ := mt_in _ _ _ f1
    have k9 : Try.prog.cellsOf 78 = 9 := by kernel_rfl
    simp [k1i, k9] at e0 e1
    subst e0
    exact ⟨(z0, q), by unfold plC; rw [← e1], hq⟩
theorem dz_in (m : Nat) (row : List Value) (y : DataW H × List MemPlace) (h : DataW.trod enc Try.prog w base sp held m 3 row = some y) : ∃ q : Int, row = dzC q ∧ True := by
  obtain ⟨z0, e0, -, -⟩ := DataW.trod_int Try.underlying3 h
  exact ⟨z0, e0, trivial⟩
/-- an edit: what is added, what is dropped, and their values -/
structure Ed where
  va : Value
  vd : Value
  ps : List (Int × Mr)
  zs : List Int
def Ed.nil : Ed := ⟨.slice none 0 0, .slice none 0 0, [], []⟩
instance : Inhabited Ed := ⟨Ed.nil⟩
def edC (e : Ed) : List Value := [e.va, e.vd]
theorem edC_len (e : Ed) : (edC e).length = 2 := rfl
def EdIn (w : World) (e : Ed) : Prop := IsPl w e.va e.ps ∧ IsDz w e.vd e.zs
theorem ed_in (m : Nat) (row : List Value) (y : DataW H × List MemPlace) (h : DataW.trod enc Try.prog w base sp held m 25 row = some y) : ∃ q : Ed, row = edC q ∧ EdIn w q := by
  obtain ⟨xs, n, _, _, hl, hxl, hf⟩ := DataW.trod_struct Try.underlying25 h
  have hl2 : row.length = 2 := hl.trans (by kernel_rfl)
  match row, hl2 with
  | [c0, c1], _ =>
    have f0 := hf 0 _ rfl
    have f1 := hf 1 _ rfl
    have hx : xs.length = 2 := hxl
    rw [List.getElem?_eq_getElem (by omega)] at f0 f1
    obtain ⟨va, ps, e0, hp, hp2⟩ := isSl_cellsQ plC (fun p => MrIn w p.2) 10 (by decide) plC_len Try.underlying23 (by kernel_rfl) pl_in f0
    obtain ⟨vd, zs, e1, hz, -⟩ := isSl_cellsQ dzC (fun _ => True) 1 (by decide) dzC_len Try.underlying22 (by kernel_rfl) dz_in f1
    have k2 : Try.prog.cellsOf 23 = 1 := by kernel_rfl
    have k3 : Try.prog.cellsOf 22 = 1 := by kernel_rfl
    simp [k2, k3] at e0 e1
    subst e0 e1
    exact ⟨⟨c0, c1, ps, zs⟩, rfl, ⟨hp, hp2⟩, hz⟩
end
/-- rows of edits -/
def IsEd (w : World) (v : Value) (l : List Ed) : Prop := IsSl edC 2 w v l ∧ ∀ x ∈ l, EdIn w x
/-- a struct that came in by value -/
theorem agg_row {H : Type} {enc : TypeId × Value → H} {w : World} {base : Nat} {v : Value} {d : DataW H} {p : List MemPlace} {t : TypeId} {fs : Array Field} (hs : Try.prog.underlying t = some (.struct fs))
    (hv : Value.okWide Try.prog w .any base t v) (h : DataW.Trod enc Try.prog w 0 (fun _ => true) true t v d p) : ∃ cs m, v = .agg cs ∧ DataW.trod enc Try.prog w 0 (fun _ => true) true m t cs.toList = some (d, p) := by
  obtain ⟨cs, rfl, -⟩ := okWide_struct hs hv
  obtain ⟨fuel, hf⟩ := h
  exact ⟨cs, fuel, rfl, hf⟩
theorem meta_in {H : Type} {enc : TypeId × Value → H} {w : World} {base : Nat} {v : Value} {d : DataW H} {p : List MemPlace}
    (hv : Value.okWide Try.prog w .any base 78 v) (h : DataW.Trod enc Try.prog w 0 (fun _ => true) true 78 v d p) : ∃ r : Mr, v = metaV r.1.z r.1.n r.1.a r.1.b r.2 ∧ MrIn w r := by
  obtain ⟨cs, m, rfl, hf⟩ := agg_row Try.underlying78 hv h
  obtain ⟨r, e, hr⟩ := mt_in _ _ _ hf
  refine ⟨r, ?_, hr⟩
  rw [show cs = (mrC r).toArray from Array.toList_inj.1 e]
  rfl
theorem place_in {H : Type} {enc : TypeId × Value → H} {w : World} {base : Nat} {v : Value} {d : DataW H} {p : List MemPlace}
    (hv : Value.okWide Try.prog w .any base 80 v) (h : DataW.Trod enc Try.prog w 0 (fun _ => true) true 80 v d p) : ∃ q : Int × Mr, v = .agg (plC q).toArray ∧ MrIn w q.2 := by
  obtain ⟨cs, m, rfl, hf⟩ := agg_row Try.underlying80 hv h
  obtain ⟨r, e, hr⟩ := pl_in _ _ _ hf
  exact ⟨r, by rw [show cs = (plC r).toArray from Array.toList_inj.1 e], hr⟩
theorem edit_in {H : Type} {enc : TypeId × Value → H} {w : World} {base : Nat} {v : Value} {d : DataW H} {p : List MemPlace}
    (hv : Value.okWide Try.prog w .any base 25 v) (h : DataW.Trod enc Try.prog w 0 (fun _ => true) true 25 v d p) : ∃ q : Ed, v = .agg #[q.va, q.vd] ∧ EdIn w q := by
  obtain ⟨cs, m, rfl, hf⟩ := agg_row Try.underlying25 hv h
  obtain ⟨r, e, hr⟩ := ed_in _ _ _ hf
  exact ⟨r, by rw [show cs = (edC r).toArray from Array.toList_inj.1 e]; rfl, hr⟩
end Go.Proofs.Ythjjelomlgmllaa.Tithe
