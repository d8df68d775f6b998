/- A set of keys: a map that the call itself has made. -/
import Derived.Test.YtkjfjcigmmooiaaEntCut
import Derived.Test.YtkjfjcigmmooiaaReadIn
import Derived.Maps.OwnSet
import Derived.DeepKeys4
namespace Go.Proofs.Ytkjfjcigmmooiaa.Tithe
open Go.RowKit Go.Maps
set_option linter.unusedVariables false
set_option maxRecDepth 100000
theorem kyLaw : Keyed Try.prog 28 := Keyed.of_law (deep_law_laid laidOut (m := 2) (by omega) (of_decide_eq_true (by kernel_rfl)) (by kernel_rfl) (by kernel_rfl))
def kyV (x : Ky) : Value := .agg #[.string x.u, .int .i64 x.s, .int .i64 x.k]
def klK (x : Ky) : Lit := .string (keyBytes [.string x.u.data.toList, .int .i64 x.s, .int .i64 x.k])
structure GoodK (x : Ky) : Prop where
  u : x.u.size ≤ maxLen
  s : (Lit.int .i64 x.s).wf = true
  k : (Lit.int .i64 x.k).wf = true
theorem kyType : Try.prog.keyType 28 = true := by kernel_rfl
theorem kyCells : Try.prog.cellsOf 28 = 3 := by kernel_rfl
theorem kyLits (d : Nat) (x : Ky) (h : GoodK x) : Try.prog.keyLits (d + 2) 28 [.string x.u, .int .i64 x.s, .int .i64 x.k] = some [.string x.u.data.toList, .int .i64 x.s, .int .i64 x.k] := by
  have k1 : Try.prog.cellsOf 9 = 1 := by kernel_rfl
  have k2 : Try.prog.cellsOf 3 = 1 := by kernel_rfl
  have hu := h.u
  have hs := h.s
  have hk := h.k
  simp [Program.keyLits, Try.underlying28, Try.underlying9, Try.underlying3, kyCells, k1, k2, hu, hs, hk]
theorem kyFormed (x : Ky) : (kyV x).formed Try.prog 28 = true := by
  unfold kyV
  simp [Value.formed, Try.underlying28, kyCells]
theorem keyOf_ky (x : Ky) (h : GoodK x) : keyOf Try.prog 28 (kyV x) = some (klK x) := by
  obtain ⟨d, hd⟩ : ∃ d, Try.prog.types.size + 1 = d + 2 := ⟨Try.prog.types.size - 1, by have : 1 ≤ Try.prog.types.size := of_decide_eq_true (by kernel_rfl); omega⟩
  unfold keyOf
  rw [Try.underlying28]
  simp only [kyType, kyFormed, Bool.and_self, if_true]
  rw [hd]
  show Option.map _ (Try.prog.keyLits (d + 2) 28 [.string x.u, .int .i64 x.s, .int .i64 x.k]) = _
  rw [kyLits d x h]; rfl
def eqK (x y : Ky) : Bool := decide (x.u = y.u) && decide (x.s = y.s) && decide (x.k = y.k)
theorem eqK_iff {x y : Ky} : eqK x y = true ↔ x = y := by
  unfold eqK
  simp only [Bool.and_eq_true, decide_eq_true_eq]
  obtain ⟨a, b, c⟩ := x
  obtain ⟨a', b', c'⟩ := y
  constructor
  · rintro ⟨⟨h1, h2⟩, h3⟩; dsimp only at h1 h2 h3; subst h1; subst h2; subst h3; rfl
  · intro h; cases h; exact ⟨⟨rfl, rfl⟩, rfl⟩
def inK (S : List Ky) (x : Ky) : Bool := S.any fun y => eqK y x
theorem klK_ne {x y : Ky} (hx : GoodK x) (hy : GoodK y) (h : x ≠ y) : klK x ≠ klK y := by
  intro e
  have h1 := keyOf_ky x hx
  rw [e] at h1
  have := kyLaw.inj h1 (keyOf_ky y hy)
  apply h
  obtain ⟨a, b, c⟩ := x
  obtain ⟨a', b', c'⟩ := y
  unfold kyV at this
  injection this with this
  simp at this
  obtain ⟨rfl, rfl, rfl⟩ := this
  rfl
/-- block b is a map that holds just the keys of S -/
def OwnsKs (W : World) (b n : Nat) (S : List Ky) : Prop := ∃ D : DataW Unit, W.ownsMap Try.prog 28 (plainElem Try.prog 4) b n D ∧ IsMap D ∧ ∀ x : Ky, GoodK x → D.atKey (klK x) (.lit (.bool false)) = .lit (.bool (inK S x))
theorem OwnsKs.made (W : World) : OwnsKs (W.alloc (.map #[] 0)) W.heap.size 0 [] := ⟨.map [], World.ownsMap_made _ _ _ _, isMap_empty, fun x hx => rfl⟩
theorem OwnsKs.lt {W : World} {b n : Nat} {S : List Ky} (h : OwnsKs W b n S) : b < W.heap.size := by
  obtain ⟨D, h1, -⟩ := h
  exact h1.lt
theorem OwnsKs.of_blk {W W' : World} {b n : Nat} {S : List Ky} (h : OwnsKs W b n S) (e : W'.heap[b]? = W.heap[b]?) : OwnsKs W' b n S := by
  obtain ⟨D, ⟨es, clock, hb, F, hs, hD⟩, h2⟩ := h
  exact ⟨D, ⟨es, clock, e.trans hb, F, hs, hD⟩, h2⟩
theorem OwnsKs.below {W W' : World} {b n : Nat} {S : List Ky} (h : OwnsKs W b n S) (hb : Below W.heap.size W W') : OwnsKs W' b n S := h.of_blk (hb.block b h.lt)
theorem OwnsKs.put {W : World} {b n : Nat} {S : List Ky} (h : OwnsKs W b n S) (x : Ky) (hx : GoodK x) (hn : n < maxLen) : ∃ W', (Instr.mapUpdate 105 (.map (some b)) (.agg #[.string x.u, .int .i64 x.s, .int .i64 x.k]) (.bool true)).run Try.prog W = .ok () W' ∧ OwnsKs W' b (n + 1) (S ++ [x]) ∧ W.grownBy W' (some b) := by
  obtain ⟨D, h1, hM, h2⟩ := h
  obtain ⟨W', hrun, h3, hg⟩ := h1.update kyLaw Try.underlying105 hn (key := kyV x) (keyOf_ky x hx) (plainElem_bool Try.underlying4 true)
  refine ⟨W', hrun, ⟨_, h3, hM.put _ _, fun y hy => ?_⟩, hg⟩
  by_cases e : x = y
  · subst e
    rw [atKey_put_same hM (kyLaw.key (keyOf_ky x hx))]
    have : inK (S ++ [x]) x = true := by
      unfold inK
      rw [List.any_append, Bool.or_eq_true]
      right
      simp [eqK_iff]
    rw [this]
  · rw [atKey_put_other (klK_ne hy hx (fun q => e q.symm)), h2 y hy]
    have : inK (S ++ [x]) y = inK S y := by
      unfold inK
      rw [List.any_append]
      have : eqK x y = false := by
        cases hq : eqK x y with
        | false => rfl
        | true => exact absurd (eqK_iff.1 hq) e
      simp [this]
    rw [this]
theorem zeroBool (W : World) : (zeroValue 4).run Try.prog W = .ok (.bool false) W := by kernel_rfl
theorem plainElem_bool_inv {P : Program} {e : TypeId} (he : P.underlying e = some .bool) {v : Value} {z : DataW Unit × List MemPlace} (h : plainElem P e v = some z) : ∃ a, v = .bool a ∧ z = (.lit (.bool a), []) := by
  unfold plainElem at h
  rw [he] at h
  cases v <;> simp at h
  exact ⟨_, rfl, h.symm⟩
theorem OwnsKs.look {W : World} {b n : Nat} {S : List Ky} (h : OwnsKs W b n S) (x : Ky) (hx : GoodK x) : (Instr.lookup 105 (.map (some b)) (.agg #[.string x.u, .int .i64 x.s, .int .i64 x.k]) false).run Try.prog W = .ok (.bool (inK S x)) W := by
  obtain ⟨D, h1, hM, h2⟩ := h
  obtain ⟨v, ps, hrun, hv⟩ := h1.lookup kyLaw Try.underlying105 (zeroBool W) (plainElem_bool Try.underlying4 false) (key := kyV x) (keyOf_ky x hx)
  obtain ⟨a, rfl, e⟩ := plainElem_bool_inv Try.underlying4 hv
  rw [h2 x hx] at e
  simp only [Prod.mk.injEq] at e
  have : inK S x = a := by
    have := e.1
    injection this with this
    injection this
  rw [this]
  exact hrun
end Go.Proofs.Ytkjfjcigmmooiaa.Tithe
