/- What the readings of arguments give, in general: slices of rows of plain cells that came in, each row with what is known of it besides; keys. -/
import Derived.Test.YthjjelomlgmllaaReadIn
import Derived.Test.YthjjelomlgmllaaKeyCore
namespace Go.Proofs.Ythjjelomlgmllaa.Tithe
open Go.RowKit Go.ChangeShapes Go.WideShapes Go.ChangeAt
set_option linter.unusedVariables false
set_option maxRecDepth 100000
noncomputable def laidWorld (os : Os) : World := World.holding Try.prog os ⟨#[], #[], []⟩
theorem isSl_cellsQ {α : Type} [Inhabited α] (ec : α → List Value) (Q : α → Prop) (sz : Nat) (hsz : 0 < sz) (hec : ∀ x, (ec x).length = sz) {H : Type} {enc : TypeId × Value → H} {w : World} {base : Nat} {sp : Nat → Bool} {held : Bool} {m : Nat} {t e : TypeId} {row : List Value} {y : DataW H × List MemPlace}
    (ht : Try.prog.underlying t = some (.slice e)) (hc : Try.prog.cellsOf e = sz) (hR : ∀ m row y, DataW.trod enc Try.prog w base sp held m e row = some y → ∃ a, row = ec a ∧ Q a)
    (h : DataW.trod enc Try.prog w base sp held m t row = some y) : ∃ v l, row = [v] ∧ IsSl ec sz w v l ∧ ∀ x ∈ l, Q x := by
  obtain ⟨l, a, c, rfl, h1, h2, h3, h4⟩ := slice_open ht h (fun row x => row = ec x ∧ Q x) hR
  refine ⟨_, l, rfl, ⟨a, c, rfl, h1, h2, fun hne => ?_⟩, fun x hx => ?_⟩
  · have hpos : 0 < l.length := by
      rcases Nat.eq_zero_or_pos l.length with q | q
      · exact absurd (List.eq_nil_of_length_eq_zero q) hne
      · exact q
    cases a with
    | none => have := h3 rfl; omega
    | some ad =>
      have hcc := h4 ad rfl
      rw [hc] at hcc
      obtain ⟨r0, -, hl0, hr0⟩ := hcc 0 hpos
      have hspot : ad.spot = none := by
        have := hr0 0 hsz
        rw [List.getElem?_eq_getElem (by omega), Nat.zero_mul] at this
        have e : (ad.add 0).add 0 = ad.add 0 := by simp [Addr.add]
        rw [e] at this
        exact plain_addr this
      obtain ⟨b, off, spot⟩ := ad
      subst hspot
      refine ⟨b, off, rfl, fun i x hx j y hj => ?_⟩
      obtain ⟨hi, he⟩ := List.getElem?_eq_some_iff.1 hx
      obtain ⟨row, hr, hl, hcell⟩ := hcc i hi
      have hjl := (List.getElem?_eq_some_iff.1 hj).1
      rw [hec] at hjl
      have cj := hcell j hjl
      rw [plain_add', plain_add'] at cj
      rw [List.getD_eq_getElem?_getD, hx] at hr
      have hr' : row = ec x := hr.1
      rw [cj, hr', hj]
  · obtain ⟨i, hi, rfl⟩ := List.mem_iff_getElem.1 hx
    cases a with
    | none => have := h3 rfl; omega
    | some ad =>
      obtain ⟨row, hr, -, -⟩ := h4 ad rfl i hi
      have := hr.2
      rwa [List.getD_eq_getElem?_getD, List.getElem?_eq_getElem hi] at this
theorem isSl_inQ {α : Type} [Inhabited α] (ec : α → List Value) (Q : α → Prop) (sz : Nat) (hsz : 0 < sz) (hec : ∀ x, (ec x).length = sz) {H : Type} {enc : TypeId × Value → H} {w : World} {base : Nat} {v : Value} {d : DataW H} {p : List MemPlace} {t e : TypeId}
    (ht : Try.prog.underlying t = some (.slice e)) (hc : Try.prog.cellsOf e = sz) (hR : ∀ m row y, DataW.trod enc Try.prog w 0 (fun _ => true) true m e row = some y → ∃ a, row = ec a ∧ Q a)
    (hv : Value.okWide Try.prog w .any base t v) (h : DataW.Trod enc Try.prog w 0 (fun _ => true) true t v d p) : ∃ l, IsSl ec sz w v l ∧ ∀ x ∈ l, Q x := by
  obtain ⟨a0, len0, cap0, rfl⟩ := okWide_slice ht hv
  obtain ⟨fuel, hf⟩ := h
  obtain ⟨v, l, e, hi⟩ := isSl_cellsQ ec Q sz hsz hec ht hc hR hf
  simp [Value.cells] at e
  subst e
  exact ⟨l, hi⟩
instance : Inhabited Ky := ⟨Ky.nil⟩
theorem key_in {H : Type} {enc : TypeId × Value → H} {w : World} {base : Nat} {sp : Nat → Bool} {held : Bool} (m : Nat) (row : List Value) (y : DataW H × List MemPlace) (h : DataW.trod enc Try.prog w base sp held m 75 row = some y) : ∃ q : Ky, row = q.cells := by
  obtain ⟨xs, n, _, _, hl, hxl, hf⟩ := DataW.trod_struct Try.underlying75 h
  have hl2 : row.length = 3 := hl.trans (by kernel_rfl)
  match row, hl2 with
  | [c0, c1, c2], _ =>
    have f0 := hf 0 _ rfl
    have f1 := hf 1 _ rfl
    have f2 := hf 2 _ rfl
    have hx : xs.length = 3 := hxl
    rw [List.getElem?_eq_getElem (by omega)] at f0 f1 f2
    obtain ⟨z0, e0, -, -⟩ := DataW.trod_string Try.underlying9 f0
    obtain ⟨z1, e1, -, -⟩ := DataW.trod_int Try.underlying3 f1
    obtain ⟨z2, e2, -, -⟩ := DataW.trod_int Try.underlying3 f2
    have k0 : Try.prog.cellsOf 3 = 1 := by kernel_rfl
    have k1 : Try.prog.cellsOf 9 = 1 := by kernel_rfl
    simp [k0, k1] at e0 e1 e2
    subst e0 e1 e2
    exact ⟨⟨z0, z1, z2⟩, rfl⟩
end Go.Proofs.Ythjjelomlgmllaa.Tithe
