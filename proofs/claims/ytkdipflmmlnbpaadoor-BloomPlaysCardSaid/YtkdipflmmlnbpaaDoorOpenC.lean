/- What the readings of arguments give: a slice of bytes that came in holds bytes. -/
import Derived.Test.YtkdipflmmlnbpaaDoorCoreWalk
import Derived.Test.YtkdipflmmlnbpaaDoorCards
import Derived.Test.YtkdipflmmlnbpaaDoorTie
import Derived.ShutString
import Derived.ChangeOld
import Derived.Deep.DeepHandedRow
import Derived.Lib.LaidTab
namespace Go.Proofs.YtkdipflmmlnbpaaDoor.Tithe
open Go.RowKit Go.ChangeShapes Go.WideShapes Go.ChangeAt
set_option linter.unusedVariables false
theorem own : ownKnob Tryd.prog.godebug = none := by kernel_rfl
theorem laidOut : laidOutB Tryd.prog = true := by kernel_rfl
theorem wf_u8 {n : Int} (h : (Lit.int .u8 n).wf = true) : 0 ≤ n ∧ n < 256 := by
  have := bounds_u8 h
  omega
/-- a slice of bytes that came in -/
theorem isBytes_of {H : Type} {enc : TypeId × Value → H} {W : World} {v : Value} {d : DataW H} {p : List MemPlace}
    (hv : ∃ a len cap, v = .slice a len cap) (h : DataW.Trod enc Tryd.prog W 0 (fun _ => true) true 29 v d p) : ∃ l, IsBytes W v l := by
  obtain ⟨a0, len0, cap0, rfl⟩ := hv
  obtain ⟨fuel, hf⟩ := h
  rcases open_ints Tryd.underlying29 Tryd.underlying5 (by kernel_rfl) hf with ⟨hcs, _⟩ | ⟨x, l, c, zs, hcs, _, hl, hm, hz, _, hcell, hwz⟩
  · simp [Value.cells] at hcs
    obtain ⟨rfl, rfl, rfl⟩ := hcs
    exact ⟨[], by simp, _, _, rfl, Nat.le_refl _, by simp, fun h => absurd rfl h⟩
  · simp [Value.cells] at hcs
    obtain ⟨rfl, rfl, rfl⟩ := hcs
    have hz' : zs.length = cap0 := by simpa using hz
    have hlen : ((zs.take len0).map Int.toNat).length = len0 := by simp; omega
    refine ⟨(zs.take len0).map Int.toNat, ?_, some x, cap0, by rw [hlen], by rw [hlen]; exact hl, hm, fun hne => ?_⟩
    · intro y hy
      simp only [List.mem_map] at hy
      obtain ⟨n, hn, rfl⟩ := hy
      have := wf_u8 (hwz n (List.mem_of_mem_take hn))
      omega
    · have h0 : 0 < len0 := by
        rcases Nat.eq_zero_or_pos len0 with e | e
        · subst e; simp at hne
        · exact e
      obtain ⟨b, off, spot⟩ := x
      have hc := hcell 0 (by omega)
      have hspot : spot = none := by simpa [Addr.add] using World.cell?_spot hc
      subst hspot
      refine ⟨b, off, rfl, fun i hi => ?_⟩
      rw [hlen] at hi
      have hci := hcell i (by omega)
      have hr := wf_u8 (hwz zs[i] (List.getElem_mem _))
      have e1 : ((zs.take len0).map Int.toNat).getD i 0 = zs[i].toNat := by
        simp [List.getD_eq_getElem?_getD, hi, List.getElem?_eq_getElem (show i < zs.length by omega)]
      have e2 : zs.getD i 0 = zs[i] := by simp [List.getD_eq_getElem?_getD, List.getElem?_eq_getElem (show i < zs.length by omega)]
      rw [e1, show ((zs[i].toNat : Nat) : Int) = zs[i] from by omega, ← e2, ← hci]
      unfold Addr.add
      split
      · rename_i h0'; subst h0'; rfl
      · rfl
theorem isBytes_in {H : Type} {enc : TypeId × Value → H} {W : World} {base : Nat} {v : Value} {d : DataW H} {p : List MemPlace}
    (hv : Value.okWide Tryd.prog W .any base 29 v) (h : DataW.Trod enc Tryd.prog W 0 (fun _ => true) true 29 v d p) : ∃ l, IsBytes W v l :=
  isBytes_of (okWide_slice Tryd.underlying29 hv) h
/-- a cell of a slice's type that reads is a slice -/
theorem slice_cell {P : Program} {H : Type} {enc : TypeId × Value → H} {w : World} {base : Nat} {sp : Nat → Bool} {held : Bool} {n : Nat} {t e : TypeId} {v : Value} {y : DataW H × List MemPlace} (ht : P.underlying t = some (.slice e)) (h : DataW.trod enc P w base sp held n t [v] = some y) :
    (∃ a len cap, v = .slice a len cap) ∧ DataW.Trod enc P w base sp held t v y.1 y.2 := by
  have hf : ∃ a len cap, v = .slice a len cap := by
    cases n with
    | zero => cases h
    | succ n =>
      unfold DataW.trod at h
      rw [ht] at h
      cases v <;> first | exact ⟨_, _, _, rfl⟩ | (simp at h)
  refine ⟨hf, n, ?_⟩
  obtain ⟨a, len, cap, rfl⟩ := hf
  exact h
/-- THE TABLE: what a row's list gives -/
def halfZ : List Int := [0, 274646895, 549293790, 820201905, 1098587580, 1361435347, 1640403810, 1905808397, 2197175160, 2460548119, 2722870694, 2987750089, 3280807620, 3553878443, 3811616794, 4084100981]
theorem gTab : Tryd.prog.globalNamed "tithebarn/sum.half" = some 0 := by kernel_rfl
theorem gTabType : (Tryd.prog.globals[0]?).map (·.type) = some 66 := by kernel_rfl
theorem cellsTab : Tryd.prog.cellsOf 66 = 16 := by kernel_rfl
theorem cellsU32 : Tryd.prog.cellsOf 57 = 1 := by kernel_rfl
theorem tab_of {rest : List (String × DataW Unit)} {W : World} (h : laidMet Tryd.prog (("tithebarn/sum.half", Lib.tabData .u32 halfZ) :: rest) W) : TabOk W := by
  have ht := Lib.tabIs_of_head gTab gTabType Tryd.underlying66 Tryd.underlying57 cellsU32 cellsTab h
  intro i hi
  have := ht.cell gTab i (by simpa [halfZ] using hi)
  rw [this]
  have : ∀ i, i < 16 → halfZ.getD i 0 = ((half i : Nat) : Int) := by decide
  rw [this i hi]

/-- A WORLD FOR THE WITNESS: the settled one, the table holding what its initialiser lays. -/
noncomputable def laidWorld (os : Os) : World :=
  { World.holding Tryd.prog os ⟨#[], #[], []⟩ with heap := (World.holding Tryd.prog os ⟨#[], #[], []⟩).heap.modify 0 fun
      | .cells _ t frozen => .cells #[.int .u32 0, .int .u32 274646895, .int .u32 549293790, .int .u32 820201905, .int .u32 1098587580, .int .u32 1361435347, .int .u32 1640403810, .int .u32 1905808397, .int .u32 2197175160, .int .u32 2460548119, .int .u32 2722870694, .int .u32 2987750089, .int .u32 3280807620, .int .u32 3553878443, .int .u32 3811616794, .int .u32 4084100981] t frozen
      | o => o }
end Go.Proofs.YtkdipflmmlnbpaaDoor.Tithe
