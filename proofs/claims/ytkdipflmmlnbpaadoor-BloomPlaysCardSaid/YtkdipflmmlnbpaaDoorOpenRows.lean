/- What the readings of arguments give: a slice of slices of bytes that came in. -/
import Derived.Test.YtkdipflmmlnbpaaDoorOpenC
import Derived.Test.YtkdipflmmlnbpaaDoorBloomRows
import Derived.Deep.Matrix
namespace Go.Proofs.YtkdipflmmlnbpaaDoor.Tithe
open Go.RowKit Go.ChangeShapes Go.WideShapes Go.ChangeAt Go.Deep
set_option linter.unusedVariables false
theorem bytes_of {w : World} {A : Option Addr} {L C : Nat} {Z : List Int} (hl : L ≤ C) (hm : C ≤ maxLen) (hz : Z.length = C) (hw : ∀ n ∈ Z, (Lit.int .u8 n).wf = true) (hn : A = none → C = 0)
    (hc : ∀ a', A = some a' → ∀ c, c < C → w.cell? (a'.add c) = some (.int .u8 (Z.getD c 0))) : ∃ l, l.length = L ∧ IsBytes w (.slice A L C) l := by
  have hlen : ((Z.take L).map Int.toNat).length = L := by simp; omega
  refine ⟨(Z.take L).map Int.toNat, hlen, ?_, A, C, by rw [hlen], by rw [hlen]; exact hl, hm, fun hne => ?_⟩
  · intro y hy
    simp only [List.mem_map] at hy
    obtain ⟨n, hn, rfl⟩ := hy
    have := wf_u8 (hw n (List.mem_of_mem_take hn))
    omega
  · have h0 : 0 < L := by
      rcases Nat.eq_zero_or_pos L with e | e
      · subst e; simp at hne
      · exact e
    cases A with
    | none => have := hn rfl; omega
    | some x =>
      have hcell := hc x rfl
      obtain ⟨b, off, spot⟩ := x
      have hc0 := hcell 0 (by omega)
      have hspot : spot = none := by simpa [Addr.add] using World.cell?_spot hc0
      subst hspot
      refine ⟨b, off, rfl, fun i hi => ?_⟩
      rw [hlen] at hi
      have hci := hcell i (by omega)
      have hr := wf_u8 (hw Z[i] (List.getElem_mem _))
      have e1 : ((Z.take L).map Int.toNat).getD i 0 = Z[i].toNat := by
        simp [List.getD_eq_getElem?_getD, hi, List.getElem?_eq_getElem (show i < Z.length by omega)]
      have e2 : Z.getD i 0 = Z[i] := by simp [List.getD_eq_getElem?_getD, List.getElem?_eq_getElem (show i < Z.length by omega)]
      rw [e1, show ((Z[i].toNat : Nat) : Int) = Z[i] from by omega, ← e2, ← hci]
      unfold Addr.add
      split
      · rename_i h0'; subst h0'; rfl
      · rfl
theorem isRows_of {H : Type} {enc : TypeId × Value → H} {W : World} {v : Value} {d : DataW H} {p : List MemPlace}
    (hv : ∃ a len cap, v = .slice a len cap) (h : DataW.Trod enc Tryd.prog W 0 (fun _ => true) true 22 v d p) : ∃ ks, IsRows W v ks := by
  obtain ⟨a0, len0, cap0, rfl⟩ := hv
  obtain ⟨fuel, hf⟩ := h
  rcases open_int_rows Tryd.underlying22 Tryd.underlying29 Tryd.underlying5 (by kernel_rfl) (by kernel_rfl) hf with ⟨hcs, _⟩ | ⟨x, l, c, A, L, C, Z, hcs, _, hl, hm, _, hcell⟩
  · simp [Value.cells] at hcs
    obtain ⟨rfl, rfl, rfl⟩ := hcs
    exact ⟨[], _, _, rfl, Nat.le_refl _, by simp, fun h => absurd rfl h⟩
  · simp [Value.cells] at hcs
    obtain ⟨rfl, rfl, rfl⟩ := hcs
    have hB : ∀ r, ∃ l : List Nat, r < cap0 → l.length = L r ∧ IsBytes W (.slice (A r) (L r) (C r)) l := by
      intro r
      by_cases hr : r < cap0
      · obtain ⟨h1, h2, h3, h4, h5, h6, h7⟩ := hcell r hr
        obtain ⟨l, hl⟩ := bytes_of h2 h3 h4 h5 h6 fun a' e => (h7 a' e).2
        exact ⟨l, fun _ => hl⟩
      · exact ⟨[], fun h => absurd h hr⟩
    have ⟨K, hK⟩ := Classical.axiomOfChoice hB
    have hlen : ((List.range len0).map K).length = len0 := by simp
    refine ⟨(List.range len0).map K, some x, cap0, by rw [hlen], by rw [hlen]; exact hl, hm, fun hne => ?_⟩
    have h0 : 0 < len0 := by
      rcases Nat.eq_zero_or_pos len0 with e | e
      · subst e; simp at hne
      · exact e
    obtain ⟨b, off, spot⟩ := x
    have hc := (hcell 0 (by omega)).1
    have hspot : spot = none := by simpa [Addr.add] using World.cell?_spot hc
    subst hspot
    refine ⟨b, off, rfl, fun i hi => ?_⟩
    rw [hlen] at hi
    have hci := (hcell i (by omega)).1
    have e1 : ((List.range len0).map K).getD i [] = K i := by simp [List.getD_eq_getElem?_getD, hi]
    rw [e1]
    refine ⟨A i, L i, C i, ?_, (hK i (by omega)).2⟩
    rw [← hci]
    unfold Addr.add
    split
    · rename_i h0'; subst h0'; rfl
    · rfl
theorem isRows_in {H : Type} {enc : TypeId × Value → H} {W : World} {base : Nat} {v : Value} {d : DataW H} {p : List MemPlace}
    (hv : Value.okWide Tryd.prog W .any base 22 v) (h : DataW.Trod enc Tryd.prog W 0 (fun _ => true) true 22 v d p) : ∃ ks, IsRows W v ks :=
  isRows_of (okWide_slice Tryd.underlying22 hv) h
end Go.Proofs.YtkdipflmmlnbpaaDoor.Tithe
