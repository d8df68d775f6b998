/- The reading of a slice of steps that came in. -/
import Derived.Test.YtcgkpbhoiaeolaaMerOpen
namespace Go.Proofs.Ytcgkpbhoiaeolaa.Tithe
open Go.RowKit Go.ChangeShapes Go.WideShapes Go.ChangeAt
set_option linter.unusedVariables false
theorem stRow_in {H : Type} {enc : TypeId × Value → H} {w : World} {base : Nat} {sp : Nat → Bool} {held : Bool} (m : Nat) (row : List Value) (y : DataW H × List MemPlace) (h : DataW.trod enc Try.prog w base sp held m 50 row = some y) : ∃ q, ItRow row q := by
  obtain ⟨xs, n, _, _, hl, hxl, hf⟩ := DataW.trod_struct Try.underlying50 h
  have hl2 : row.length = 2 := hl.trans (by kernel_rfl)
  match row, hl2 with
  | [c0, c1], _ =>
    have f0 := hf 0 _ rfl
    have f1 := hf 1 _ rfl
    have hx : xs.length = 2 := hxl
    rw [List.getElem?_eq_getElem (by omega)] at f0 f1
    obtain ⟨z0, e0, -, -⟩ := DataW.trod_int Try.underlying3 f0
    obtain ⟨z1, e1, -, -⟩ := DataW.trod_int Try.underlying3 f1
    have k0 : Try.prog.cellsOf 3 = 1 := by kernel_rfl
    simp [k0] at e0 e1
    subst e0 e1
    exact ⟨(z0, z1), rfl⟩
theorem isSt_cells {H : Type} {enc : TypeId × Value → H} {w : World} {base : Nat} {sp : Nat → Bool} {held : Bool} {m : Nat} {row : List Value} {y : DataW H × List MemPlace} (h : DataW.trod enc Try.prog w base sp held m 45 row = some y) : ∃ v l, row = [v] ∧ IsIt w v l := by
  obtain ⟨l, a, c, rfl, h1, h2, h3, h4⟩ := slice_open Try.underlying45 h ItRow stRow_in
  refine ⟨_, l, rfl, a, c, rfl, h1, h2, fun hne => ?_⟩
  have hpos : 0 < l.length := by
    rcases Nat.eq_zero_or_pos l.length with q | q
    · exact absurd (List.eq_nil_of_length_eq_zero q) hne
    · exact q
  cases a with
  | none => have := h3 rfl; omega
  | some ad =>
    have k2 : Try.prog.cellsOf 50 = 2 := by kernel_rfl
    have hc := h4 ad rfl
    rw [k2] at hc
    obtain ⟨r0, -, hl0, hr0⟩ := hc 0 hpos
    have hsp : ad.spot = none := by
      have := hr0 0 (by omega)
      rw [List.getElem?_eq_getElem (by omega), Nat.zero_mul] at this
      have e : (ad.add 0).add 0 = ad.add 0 := by simp [Addr.add]
      rw [e] at this
      exact plain_addr this
    obtain ⟨b, off, spot⟩ := ad
    subst hsp
    refine ⟨b, off, rfl, fun i hi => ?_⟩
    obtain ⟨row, hr, hl, hcell⟩ := hc i hi
    have c0 := hcell 0 (by omega)
    have c1 := hcell 1 (by omega)
    rw [plain_add, plain_add] at c0 c1
    unfold ItRow at hr
    subst hr
    exact ⟨c0, c1⟩
theorem isSt_in {H : Type} {enc : TypeId × Value → H} {w : World} {base : Nat} {v : Value} {d : DataW H} {p : List MemPlace}
    (hv : Value.okWide Try.prog w .any base 45 v) (h : DataW.Trod enc Try.prog w 0 (fun _ => true) true 45 v d p) : ∃ l, IsIt w v l := by
  obtain ⟨a0, len0, cap0, rfl⟩ := okWide_slice Try.underlying45 hv
  obtain ⟨fuel, hf⟩ := h
  obtain ⟨v, l, e, hi⟩ := isSt_cells hf
  simp [Value.cells] at e
  subst e
  exact ⟨l, hi⟩
end Go.Proofs.Ytcgkpbhoiaeolaa.Tithe
