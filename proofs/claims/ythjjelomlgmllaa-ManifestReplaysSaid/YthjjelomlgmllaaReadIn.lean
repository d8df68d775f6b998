/- READINGS OF ARGUMENTS, in general: a slice's elements, each by its own reading. No type of the program is named. -/
import Derived.Test.YthjjelomlgmllaaRows
import Derived.ShutString
import Derived.ChangeOld
import Derived.Deep.DeepHandedRow
import Derived.Lib.LaidTab
import Derived.Lib.SmallJoins
namespace Go.Proofs.Ythjjelomlgmllaa.Tithe
open Go.RowKit Go.ChangeShapes Go.WideShapes Go.ChangeAt
set_option linter.unusedVariables false
theorem own : ownKnob Try.prog.godebug = none := by kernel_rfl
theorem laidOut : laidOutB Try.prog = true := by kernel_rfl
section
variable {P : Program} {H : Type} {enc : TypeId × Value → H} {w : World} {base : Nat} {sp : Nat → Bool} {held : Bool}
theorem cells_at {a : Addr} {n : Nat} {cs : List Value} (h : w.cells? base a n = some cs) : cs.length = n ∧ ∀ i, i < n → w.cell? (a.add i) = cs[i]? := by
  obtain h := World.cells?_some h
  exact ⟨h.2.1, h.2.2⟩
/-- a slice that came in: its elements by R -/
theorem slice_open {α : Type} [Inhabited α] {t e : TypeId} {n : Nat} {cs : List Value} {x : DataW H × List MemPlace} (ht : P.underlying t = some (.slice e)) (h : DataW.trod enc P w base sp held n t cs = some x)
    (R : List Value → α → Prop) (hR : ∀ m row y, DataW.trod enc P w base sp held m e row = some y → ∃ a, R row a) :
    ∃ (l : List α) (a : Option Addr) (c : Nat), cs = [.slice a l.length c] ∧ l.length ≤ c ∧ c ≤ maxLen ∧ (a = none → c = 0) ∧ (∀ ad, a = some ad → ∀ i, i < l.length → ∃ row, R row (l.getD i default) ∧ row.length = P.cellsOf e ∧ ∀ j, j < P.cellsOf e → w.cell? ((ad.add (i * P.cellsOf e)).add j) = row[j]?) := by
  rcases DataW.trod_slice ht h with ⟨rfl, _⟩ | ⟨a, len, cap, elems, rest, m, _, rfl, _, hb, h1, h2, h3, h4, _⟩
  · exact ⟨[], none, 0, rfl, Nat.le_refl _, by simp, fun _ => rfl, fun ad h => by cases h⟩
  · have hB : ∀ i, ∃ z : α, i < len → ∃ row, R row z ∧ row.length = P.cellsOf e ∧ ∀ j, j < P.cellsOf e → w.cell? ((a.add (i * P.cellsOf e)).add j) = row[j]? := by
      intro i
      by_cases hi : i < len
      · have h5 := h4 i hi
        rw [List.getElem?_eq_getElem (by omega)] at h5
        obtain ⟨row, hr1, hr2⟩ := Option.bind_eq_some_iff.1 h5
        obtain ⟨z, hz⟩ := hR _ _ _ hr2
        obtain ⟨k1, k2⟩ := cells_at hr1
        exact ⟨z, fun _ => ⟨row, hz, k1, k2⟩⟩
      · exact ⟨default, fun h => absurd h hi⟩
    have ⟨K, hK⟩ := Classical.axiomOfChoice hB
    have hlen : ((List.range len).map K).length = len := by simp
    refine ⟨(List.range len).map K, some a, cap, by rw [hlen], by rw [hlen]; exact h1, h2, (fun h => (by cases h)), fun ad had i hi => ?_⟩
    injection had with had
    subst had
    rw [hlen] at hi
    have e1 : ((List.range len).map K).getD i default = K i := by simp [List.getD_eq_getElem?_getD, hi]
    rw [e1]
    exact hK i hi
/-- a cell of a slice's type that reads is a slice -/
theorem slice_cell {n : Nat} {t e : TypeId} {v : Value} {y : DataW H × List MemPlace} (ht : P.underlying t = some (.slice e)) (h : DataW.trod enc P w base sp held n t [v] = some y) :
    (∃ a len cap, v = .slice a len cap) ∧ DataW.Trod enc P w base sp held t v y.1 y.2 := by
  have hf : ∃ a len cap, v = .slice a len cap := by
    rcases DataW.trod_slice ht h with ⟨e1, _⟩ | ⟨a, len, cap, elems, rest, m, _, e1, _⟩
    · injection e1 with e1; exact ⟨_, _, _, e1⟩
    · injection e1 with e1; exact ⟨_, _, _, e1⟩
  refine ⟨hf, n, ?_⟩
  obtain ⟨a, len, cap, rfl⟩ := hf
  exact h
theorem plain_addr {a : Addr} {v : Value} (h : w.cell? (a.add 0) = some v) : a.spot = none := by
  simpa [Addr.add] using World.cell?_spot h
end
end Go.Proofs.Ythjjelomlgmllaa.Tithe
