/- MAPS FROM NUMBERS that the call itself has made, each by the function that it is and by how many keys it has; the elements' type and their reading are arguments. -/
import Derived.Test.YtbnodgoccmhjkaaSlice
import Derived.Maps.OwnSet
import Derived.Maps.OwnOps
import Derived.Maps.RangeWalk
namespace Go.Proofs.Ytbnodgoccmhjkaa.Tithe
open Go.RowKit Go.Maps Go.WideMaps
set_option linter.unusedVariables false
set_option maxRecDepth 100000
theorem intLaw : Keyed Try.prog 3 := int_keyed Try.underlying3
def klN (x : Int) : Lit := .int .i64 x
theorem keyOf_n {x : Int} (h : (Lit.int .i64 x).wf = true) : keyOf Try.prog 3 (.int .i64 x) = some (klN x) := keyOf_int_mk Try.underlying3 h
theorem klN_ne {x y : Int} (h : x ≠ y) : klN x ≠ klN y := fun e => h (by injection e)
/-- a map's type, and how its elements read -/
structure MapTy (α : Type) where
  T : TypeId
  E : TypeId
  R : Value → Option (DataW Unit × List MemPlace)
  el : α → Value
  rd : α → DataW Unit
  ok : α → Prop
  z0 : Value
  zd : DataW Unit
  ht : Try.prog.underlying T = some (.map 3 E)
  hz : ∀ W : World, (zeroValue E).run Try.prog W = .ok z0 W
  rz : R z0 = some (zd, [])
  fwd : ∀ a, ok a → R (el a) = some (rd a, [])
  inv : ∀ v a ps, ok a → R v = some (rd a, ps) → v = el a
  invz : ∀ v ps, R v = some (zd, ps) → v = z0
section
variable {α : Type} {M : MapTy α}
/-- the datum is just the function F, of z keys -/
structure IsFm (M : MapTy α) (D : DataW Unit) (F : Int → Option α) (z : Nat) : Prop where
  tidy : Tidy D
  size : Maps.size D = z
  at_ : ∀ x, (Lit.int .i64 x).wf = true → match F x with
    | some a => M.ok a ∧ has D (klN x) = true ∧ ∀ zd, D.atKey (klN x) zd = M.rd a
    | none => has D (klN x) = false
def OwnsF (M : MapTy α) (W : World) (b : Nat) (F : Int → Option α) (z : Nat) : Prop := ∃ D : DataW Unit, W.ownsMap Try.prog 3 M.R b z D ∧ IsFm M D F z
theorem OwnsF.lt {W : World} {b z : Nat} {F : Int → Option α} (h : OwnsF M W b F z) : b < W.heap.size := by
  obtain ⟨D, h1, -⟩ := h
  exact h1.lt
theorem OwnsF.of_blk {W W' : World} {b z : Nat} {F : Int → Option α} (h : OwnsF M W b F z) (e : W'.heap[b]? = W.heap[b]?) : OwnsF M W' b F z := by
  obtain ⟨D, ⟨es, clock, hb, F', hs, hD⟩, h2⟩ := h
  exact ⟨D, ⟨es, clock, e.trans hb, F', hs, hD⟩, h2⟩
theorem OwnsF.map {W : World} {b z : Nat} {F : Int → Option α} (h : OwnsF M W b F z) : ∃ es clock, W.heap[b]? = some (.map es clock) := by
  obtain ⟨D, ⟨es, clock, hb, -⟩, -⟩ := h
  exact ⟨es, clock, hb⟩
theorem OwnsF.below {W W' : World} {b z : Nat} {F : Int → Option α} (h : OwnsF M W b F z) (hb : Below W.heap.size W W') : OwnsF M W' b F z := h.of_blk (hb.block b h.lt)
theorem OwnsF.made (W : World) : OwnsF M (W.alloc (.map #[] 0)) W.heap.size (fun _ => none) 0 := ⟨.map [], World.ownsMap_made _ _ _ _, tidy_empty, rfl, fun x hx => rfl⟩
theorem OwnsF.of_empty {W : World} {b : Nat} (h : W.heap[b]? = some (.map #[] 0)) : OwnsF M W b (fun _ => none) 0 := by
  have h1 := World.ownsMap_made W Try.prog 3 M.R
  obtain ⟨es, clock, hb, F', hs, hD⟩ := h1
  have h2 : (W.alloc (.map #[] 0)).heap[W.heap.size]? = some (.map #[] 0) := (MapKept.heap_alloc W _).1
  rw [h2] at hb
  injection hb with hb
  injection hb with e1 e2
  subst e1 e2
  exact ⟨.map [], ⟨_, _, h, F', hs, hD⟩, tidy_empty, rfl, fun x hx => rfl⟩
def updF (F : Int → Option α) (x : Int) (o : Option α) : Int → Option α := fun y => if y = x then o else F y
theorem has_of {D : DataW Unit} {F : Int → Option α} {z : Nat} (h : IsFm M D F z) {x : Int} (hx : (Lit.int .i64 x).wf = true) : has D (klN x) = (F x).isSome := by
  have := h.at_ x hx
  cases q : F x with
  | none => rw [q] at this; exact this
  | some a => rw [q] at this; exact this.2.1
theorem own_size {W : World} {b n : Nat} {D : DataW Unit} {R : Value → Option (DataW Unit × List MemPlace)} (h : W.ownsMap Try.prog 3 R b n D) : W.ownsMap Try.prog 3 R b (Maps.size D) D := by
  obtain ⟨es, clock, hb, F, hs, rfl⟩ := h
  exact ⟨es, clock, hb, F, by simp [Maps.size, length_sorted], rfl⟩
theorem OwnsF.put {W : World} {b z : Nat} {F : Int → Option α} (h : OwnsF M W b F z) (x : Int) (a : α) (hx : (Lit.int .i64 x).wf = true) (ha : M.ok a) (hz : z < maxLen) :
    ∃ W', (Instr.mapUpdate M.T (.map (some b)) (.int .i64 x) (M.el a)).run Try.prog W = .ok () W' ∧ OwnsF M W' b (updF F x (some a)) (if (F x).isSome then z else z + 1) ∧ W.grownBy W' (some b) := by
  obtain ⟨D, h1, h2⟩ := h
  obtain ⟨W', hrun, h3, hg⟩ := h1.update intLaw M.ht hz (keyOf_n hx) (M.fwd a ha)
  have hs := size_put h2.tidy (k := klN x) (M.rd a)
  rw [has_of h2 hx, h2.size] at hs
  refine ⟨W', hrun, ⟨_, by have := own_size h3; rwa [hs] at this, h2.tidy.put (intLaw.key (keyOf_n hx)) _, hs, fun y hy => ?_⟩, hg⟩
  unfold updF
  by_cases e : y = x
  · subst e
    simp only [if_pos]
    exact ⟨ha, has_put_same h2.tidy.isMap (intLaw.key (keyOf_n hx)) _, fun zd => atKey_put_same h2.tidy.isMap (intLaw.key (keyOf_n hx)) _ zd⟩
  · simp only [if_neg e]
    have h4 := h2.at_ y hy
    cases q : F y with
    | none =>
      rw [q] at h4
      show has (D.put (klN x) _) (klN y) = false
      rw [has_put_other (klN_ne e)]; exact h4
    | some c =>
      rw [q] at h4
      refine ⟨h4.1, ?_, fun zd => ?_⟩
      · rw [has_put_other (klN_ne e)]; exact h4.2.1
      · rw [atKey_put_other (klN_ne e)]; exact h4.2.2 zd
theorem turned_grownF {W W' : World} {b : Nat} (h : W.mapTurned W' b) : W.grownBy W' (some b) := h.grown
theorem OwnsF.drop {W : World} {b z : Nat} {F : Int → Option α} (h : OwnsF M W b F z) (x : Int) (hx : (Lit.int .i64 x).wf = true) (ty : TypeId) :
    ∃ W', (Builtin.delete_ #[M.T, 3] ty #[.map (some b), .int .i64 x]).run Try.prog W = .ok (.tuple #[]) W' ∧ OwnsF M W' b (updF F x none) (if (F x).isSome then z - 1 else z) ∧ W.grownBy W' (some b) := by
  obtain ⟨D, h1, h2⟩ := h
  obtain ⟨W', hrun, h3, ht⟩ := h1.drop intLaw M.ht (keyOf_n hx) ty
  have hs := size_del h2.tidy (k := klN x)
  rw [has_of h2 hx, h2.size] at hs
  have hs2 : Maps.size (D.del (klN x)) = if (F x).isSome then z - 1 else z := by
    split at hs <;> rename_i q
    · rw [if_pos q]; omega
    · rw [if_neg q]; omega
  refine ⟨W', hrun, ⟨_, by have := own_size h3; rwa [hs2] at this, h2.tidy.del _, hs2, fun y hy => ?_⟩, turned_grownF ht⟩
  unfold updF
  by_cases e : y = x
  · subst e
    simp only [if_pos]
    exact has_del_same
  · simp only [if_neg e]
    have h4 := h2.at_ y hy
    cases q : F y with
    | none =>
      rw [q] at h4
      show has (D.del (klN x)) (klN y) = false
      rw [has_del_other (klN_ne e)]; exact h4
    | some c =>
      rw [q] at h4
      refine ⟨h4.1, ?_, fun zd => ?_⟩
      · rw [has_del_other (klN_ne e)]; exact h4.2.1
      · rw [atKey_del_other (klN_ne e)]; exact h4.2.2 zd
/-- what a look-up gives -/
def elF (M : MapTy α) (o : Option α) : Value := match o with
  | some a => M.el a
  | none => M.z0
theorem OwnsF.look_ok {W : World} {b z : Nat} {F : Int → Option α} (h : OwnsF M W b F z) (x : Int) (hx : (Lit.int .i64 x).wf = true) :
    (Instr.lookup M.T (.map (some b)) (.int .i64 x) true).run Try.prog W = .ok (.tuple #[elF M (F x), .bool (F x).isSome]) W := by
  obtain ⟨D, h1, h2⟩ := h
  obtain ⟨v, ps, hrun, hv⟩ := h1.look_ok intLaw M.ht (M.hz W) M.rz (keyOf_n hx)
  rw [has_of h2 hx] at hrun
  have h4 := h2.at_ x hx
  cases q : F x with
  | none =>
    rw [q] at h4 hrun
    rw [atKey_of_not_has h4] at hv
    rw [M.invz v ps hv] at hrun
    exact hrun
  | some a =>
    rw [q] at h4 hrun
    rw [h4.2.2] at hv
    rw [M.inv v a ps h4.1 hv] at hrun
    exact hrun
theorem OwnsF.look {W : World} {b z : Nat} {F : Int → Option α} (h : OwnsF M W b F z) (x : Int) (hx : (Lit.int .i64 x).wf = true) :
    (Instr.lookup M.T (.map (some b)) (.int .i64 x) false).run Try.prog W = .ok (elF M (F x)) W := by
  obtain ⟨D, h1, h2⟩ := h
  obtain ⟨v, ps, hrun, hv⟩ := h1.lookup intLaw M.ht (M.hz W) M.rz (keyOf_n hx)
  have h4 := h2.at_ x hx
  cases q : F x with
  | none =>
    rw [q] at h4
    rw [atKey_of_not_has h4] at hv
    rw [M.invz v ps hv] at hrun
    exact hrun
  | some a =>
    rw [q] at h4
    rw [h4.2.2] at hv
    rw [M.inv v a ps h4.1 hv] at hrun
    exact hrun
theorem OwnsF.len {W : World} {b z : Nat} {F : Int → Option α} (h : OwnsF M W b F z) (ty : TypeId) : (Builtin.len_ #[M.T] ty #[.map (some b)]).run Try.prog W = .ok (.int .i64 z) W := by
  obtain ⟨D, h1, h2⟩ := h
  have := h1.len M.ht ty
  rwa [h2.size] at this
end
/-- elements that are numbers -/
noncomputable def mapII (T : TypeId) (ht : Try.prog.underlying T = some (.map 3 3)) : MapTy Int where
  T := T
  E := 3
  R := plainElem Try.prog 3
  el := Value.int .i64
  rd := fun a => .lit (.int .i64 a)
  ok := fun a => (Lit.int .i64 a).wf = true
  z0 := .int .i64 0
  zd := .lit (.int .i64 0)
  ht := ht
  hz := fun W => by kernel_rfl
  rz := plainElem_int Try.underlying3 (by decide)
  fwd := fun a h => plainElem_int Try.underlying3 h
  inv := fun v a ps h hv => by
    obtain ⟨c, rfl, e, -⟩ := plainElem_int_inv Try.underlying3 hv
    have := congrArg Prod.fst e
    injection this with this
    injection this with _ this
    rw [this]
  invz := fun v ps hv => by
    obtain ⟨c, rfl, e, -⟩ := plainElem_int_inv Try.underlying3 hv
    have := congrArg Prod.fst e
    injection this with this
    injection this with _ this
    rw [← this]
/-- elements that are pointers to whole blocks -/
def ptrEl (v : Value) : Option (DataW Unit × List MemPlace) := match v with
  | .pointer none => some (.nil, [])
  | .pointer (some ⟨b, 0, none⟩) => some (.lit (.int .i64 b), [])
  | _ => none
theorem ptrEl_some {v : Value} {b : Nat} {ps : List MemPlace} (h : ptrEl v = some (.lit (.int .i64 b), ps)) : v = .pointer (some ⟨b, 0, none⟩) := by
  unfold ptrEl at h
  split at h
  · injection h with h; injection h with h _; cases h
  · rename_i c
    injection h with h; injection h with h _; injection h with h; injection h with _ h
    have : c = b := by exact_mod_cast h
    rw [this]
  · cases h
theorem ptrEl_none {v : Value} {ps : List MemPlace} (h : ptrEl v = some (.nil, ps)) : v = .pointer none := by
  unfold ptrEl at h
  split at h
  · rfl
  · injection h with h; injection h with h _; cases h
  · cases h
noncomputable def mapIP (T E : TypeId) (ht : Try.prog.underlying T = some (.map 3 E)) (hz : ∀ W : World, (zeroValue E).run Try.prog W = .ok (.pointer none) W) : MapTy Nat where
  T := T
  E := E
  R := ptrEl
  el := fun b => .pointer (some ⟨b, 0, none⟩)
  rd := fun b => .lit (.int .i64 b)
  ok := fun _ => True
  z0 := .pointer none
  zd := .nil
  ht := ht
  hz := hz
  rz := rfl
  fwd := fun a _ => rfl
  inv := fun v a ps _ hv => ptrEl_some hv
  invz := fun v ps hv => ptrEl_none hv
end Go.Proofs.Ytbnodgoccmhjkaa.Tithe
