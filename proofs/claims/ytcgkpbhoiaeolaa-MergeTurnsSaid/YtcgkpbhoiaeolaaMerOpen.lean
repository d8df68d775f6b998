/- What the readings of arguments give: slices of items that came in. -/
import Derived.Test.YtcgkpbhoiaeolaaReadIn
import Derived.Test.YtcgkpbhoiaeolaaMerMake
namespace Go.Proofs.Ytcgkpbhoiaeolaa.Tithe
open Go.RowKit Go.ChangeShapes Go.WideShapes Go.ChangeAt
set_option linter.unusedVariables false
noncomputable def laidWorld (os : Os) : World := World.holding Try.prog os ⟨#[], #[], []⟩
def ItRow (row : List Value) (q : It) : Prop := row = [.int .i64 q.1, .int .i64 q.2]
theorem itRow_in {H : Type} {enc : TypeId × Value → H} {w : World} {base : Nat} {sp : Nat → Bool} {held : Bool} (m : Nat) (row : List Value) (y : DataW H × List MemPlace) (h : DataW.trod enc Try.prog w base sp held m 44 row = some y) : ∃ q, ItRow row q := by
  obtain ⟨xs, n, _, _, hl, hxl, hf⟩ := DataW.trod_struct Try.underlying44 h
  have hl2 : row.length = 2 := hl.trans (by kernel_rfl)
  match row, hl2 with
  | [c0, c1], _ =>
    have f0 := hf 0 _ rfl
    have f1 := hf 1 _ rfl
    have hx : xs.length = 2 := hxl
    rw [List.getElem?_eq_getElem (by omega)] at f0 f1
    obtain ⟨z0, e0, -, -⟩ := DataW.trod_int Try.underlying3 f0
    obtain ⟨z1, e1, -, -⟩ := DataW.trod_int Try.underlying3 f1
    have k0 : Try.prog.cellsOf 3 = 1 := by kernel_rfl
    simp [k0] at e0 e1
    subst e0 e1
    exact ⟨(z0, z1), rfl⟩
theorem isIt_cells {H : Type} {enc : TypeId × Value → H} {w : World} {base : Nat} {sp : Nat → Bool} {held : Bool} {m : Nat} {row : List Value} {y : DataW H × List MemPlace} (h : DataW.trod enc Try.prog w base sp held m 31 row = some y) : ∃ v l, row = [v] ∧ IsIt w v l := by
  obtain ⟨l, a, c, rfl, h1, h2, h3, h4⟩ := slice_open Try.underlying31 h ItRow itRow_in
  refine ⟨_, l, rfl, a, c, rfl, h1, h2, fun hne => ?_⟩
  have hpos : 0 < l.length := by
    rcases Nat.eq_zero_or_pos l.length with q | q
    · exact absurd (List.eq_nil_of_length_eq_zero q) hne
    · exact q
  cases a with
  | none => have := h3 rfl; omega
  | some ad =>
    have k2 : Try.prog.cellsOf 44 = 2 := by kernel_rfl
    have hc := h4 ad rfl
    rw [k2] at hc
    obtain ⟨r0, -, hl0, hr0⟩ := hc 0 hpos
    have hsp : ad.spot = none := by
      have := hr0 0 (by omega)
      rw [List.getElem?_eq_getElem (by omega), Nat.zero_mul] at this
      have e : (ad.add 0).add 0 = ad.add 0 := by simp [Addr.add]
      rw [e] at this
      exact plain_addr this
    obtain ⟨b, off, spot⟩ := ad
    subst hsp
    refine ⟨b, off, rfl, fun i hi => ?_⟩
    obtain ⟨row, hr, hl, hcell⟩ := hc i hi
    have c0 := hcell 0 (by omega)
    have c1 := hcell 1 (by omega)
    rw [plain_add, plain_add] at c0 c1
    unfold ItRow at hr
    subst hr
    exact ⟨c0, c1⟩
theorem isIt_in {H : Type} {enc : TypeId × Value → H} {w : World} {base : Nat} {v : Value} {d : DataW H} {p : List MemPlace}
    (hv : Value.okWide Try.prog w .any base 31 v) (h : DataW.Trod enc Try.prog w 0 (fun _ => true) true 31 v d p) : ∃ l, IsIt w v l := by
  obtain ⟨a0, len0, cap0, rfl⟩ := okWide_slice Try.underlying31 hv
  obtain ⟨fuel, hf⟩ := h
  obtain ⟨v, l, e, hi⟩ := isIt_cells hf
  simp [Value.cells] at e
  subst e
  exact ⟨l, hi⟩
theorem isIts_in {H : Type} {enc : TypeId × Value → H} {w : World} {base : Nat} {v : Value} {d : DataW H} {p : List MemPlace}
    (hv : Value.okWide Try.prog w .any base 22 v) (h : DataW.Trod enc Try.prog w 0 (fun _ => true) true 22 v d p) : ∃ ls, IsIts w v ls := by
  obtain ⟨a0, len0, cap0, rfl⟩ := okWide_slice Try.underlying22 hv
  obtain ⟨fuel, hf⟩ := h
  obtain ⟨ls, a, c, e, h1, h2, h3, h4⟩ := slice_open (α := List It) Try.underlying22 hf (fun row l => ∃ v, row = [v] ∧ IsIt w v l) (fun m row y h => by
    obtain ⟨v, l, e, hi⟩ := isIt_cells h
    exact ⟨l, v, e, hi⟩)
  simp [Value.cells] at e
  obtain ⟨rfl, rfl, rfl⟩ := e
  refine ⟨ls, a0, cap0, rfl, h1, h2, fun hne => ?_⟩
  have hpos : 0 < ls.length := by
    rcases Nat.eq_zero_or_pos ls.length with q | q
    · exact absurd (List.eq_nil_of_length_eq_zero q) hne
    · exact q
  cases a0 with
  | none => have := h3 rfl; omega
  | some ad =>
    have k2 : Try.prog.cellsOf 31 = 1 := by kernel_rfl
    have hc := h4 ad rfl
    rw [k2] at hc
    obtain ⟨r0, -, hl0, hr0⟩ := hc 0 hpos
    have hsp : ad.spot = none := by
      have := hr0 0 (by omega)
      rw [List.getElem?_eq_getElem (by omega), Nat.zero_mul] at this
      have e : (ad.add 0).add 0 = ad.add 0 := by simp [Addr.add]
      rw [e] at this
      exact plain_addr this
    obtain ⟨b, off, spot⟩ := ad
    subst hsp
    refine ⟨b, off, rfl, fun i hi => ?_⟩
    obtain ⟨row, ⟨v, rfl, hit⟩, hl, hcell⟩ := hc i hi
    have c0 := hcell 0 (by omega)
    rw [plain_add, plain_add, Nat.mul_one] at c0
    obtain ⟨ka, kc, rfl, -, -, -⟩ := id hit
    exact ⟨_, _, _, c0, hit⟩
end Go.Proofs.Ytcgkpbhoiaeolaa.Tithe
