/- The readings of bytes, rows of bytes and supers that come in. -/
import Derived.Test.YthjjelomlgmllaaSlOpen
import Derived.Test.YthjjelomlgmllaaManSup
namespace Go.Proofs.Ythjjelomlgmllaa.Tithe
open Go.RowKit Go.ChangeShapes Go.WideShapes Go.ChangeAt
set_option linter.unusedVariables false
set_option maxRecDepth 100000
def suC (x : Int × Int) : List Value := [.int .i64 x.1, .int .i64 x.2]
theorem suC_len (x : Int × Int) : (suC x).length = 2 := rfl
abbrev IsSu (w : World) (v : Value) (l : List (Int × Int)) : Prop := IsSl suC 2 w v l
def IsRB (w : World) (v : Value) (l : List (Value × List Nat)) : Prop := IsSl bbC 1 w v l ∧ ∀ p ∈ l, IsBs w p.1 p.2 ∧ ∀ x ∈ p.2, x < 256
instance : Inhabited (Value × List Nat) := ⟨(.slice none 0 0, [])⟩
theorem wf_u8 {n : Int} (h : (Lit.int .u8 n).wf = true) : 0 ≤ n ∧ n < 256 := by
  have := bounds_u8 h
  omega
section
variable {H : Type} {enc : TypeId × Value → H} {w : World} {base : Nat} {sp : Nat → Bool} {held : Bool}
theorem k1n : Try.prog.cellsOf 3 = 1 := by kernel_rfl
theorem u8_in (m : Nat) (row : List Value) (y : DataW H × List MemPlace) (h : DataW.trod enc Try.prog w base sp held m 5 row = some y) : ∃ q : Nat, row = byteC q ∧ q < 256 := by
  obtain ⟨z0, e0, -, hw⟩ := DataW.trod_int Try.underlying5 h
  have h2 : 0 ≤ z0 ∧ z0 < 256 := wf_u8 hw
  refine ⟨z0.toNat, ?_, by omega⟩
  rw [e0]
  show [Value.int .u8 z0] = [Value.int .u8 (z0.toNat : Int)]
  rw [Int.toNat_of_nonneg h2.1]
theorem by_in (m : Nat) (row : List Value) (y : DataW H × List MemPlace) (h : DataW.trod enc Try.prog w base sp held m 34 row = some y) : ∃ q : Value × List Nat, row = bbC q ∧ (IsBs w q.1 q.2 ∧ ∀ x ∈ q.2, x < 256) := by
  obtain ⟨v, l, e, hi, hq⟩ := isSl_cellsQ byteC (fun q => q < 256) 1 (by decide) byteC_len Try.underlying34 (by kernel_rfl) u8_in h
  exact ⟨(v, l), e, hi, hq⟩
theorem su_in (m : Nat) (row : List Value) (y : DataW H × List MemPlace) (h : DataW.trod enc Try.prog w base sp held m 49 row = some y) : ∃ q : Int × Int, row = suC q ∧ True := by
  obtain ⟨xs, n, _, _, hl, hxl, hf⟩ := DataW.trod_struct Try.underlying49 h
  have hl2 : row.length = 2 := hl.trans (by kernel_rfl)
  match row, hl2 with
  | [c0, c1], _ =>
    have f0 := hf 0 _ rfl
    have f1 := hf 1 _ rfl
    have hx : xs.length = 2 := hxl
    rw [List.getElem?_eq_getElem (by omega)] at f0 f1
    obtain ⟨z0, e0, -, -⟩ := DataW.trod_int Try.underlying3 f0
    obtain ⟨z1, e1, -, -⟩ := DataW.trod_int Try.underlying3 f1
    simp [k1n] at e0 e1
    subst e0 e1
    exact ⟨(z0, z1), rfl, trivial⟩
end
theorem isRB_in {H : Type} {enc : TypeId × Value → H} {w : World} {base : Nat} {v : Value} {d : DataW H} {p : List MemPlace} (hv : Value.okWide Try.prog w .any base 47 v) (h : DataW.Trod enc Try.prog w 0 (fun _ => true) true 47 v d p) : ∃ l, IsRB w v l :=
  isSl_inQ bbC (fun q => IsBs w q.1 q.2 ∧ ∀ x ∈ q.2, x < 256) 1 (by decide) bbC_len Try.underlying47 (by kernel_rfl) by_in hv h
theorem isSu_in {H : Type} {enc : TypeId × Value → H} {w : World} {base : Nat} {v : Value} {d : DataW H} {p : List MemPlace} (hv : Value.okWide Try.prog w .any base 46 v) (h : DataW.Trod enc Try.prog w 0 (fun _ => true) true 46 v d p) : ∃ l, IsSu w v l := by
  obtain ⟨l, hl, -⟩ := isSl_inQ suC (fun _ => True) 2 (by decide) suC_len Try.underlying46 (by kernel_rfl) su_in hv h
  exact ⟨l, hl⟩
def IsBy (w : World) (v : Value) (l : List Nat) : Prop := IsBs w v l ∧ ∀ x ∈ l, x < 256
theorem isBy_in {H : Type} {enc : TypeId × Value → H} {w : World} {base : Nat} {v : Value} {d : DataW H} {p : List MemPlace} (hv : Value.okWide Try.prog w .any base 34 v) (h : DataW.Trod enc Try.prog w 0 (fun _ => true) true 34 v d p) : ∃ l, IsBy w v l :=
  isSl_inQ byteC (fun q => q < 256) 1 (by decide) byteC_len Try.underlying34 (by kernel_rfl) u8_in hv h
end Go.Proofs.Ythjjelomlgmllaa.Tithe
