/- A map from texts to texts that the call itself has made. -/
import Derived.Test.YtbnodgoccmhjkaaFlatFind
import Derived.Maps.OwnSet
import Derived.Maps.RangeWalk
import Derived.StringKeys
namespace Go.Proofs.Ytbnodgoccmhjkaa.Tithe
open Go.RowKit Go.Maps Go.WideMaps
set_option linter.unusedVariables false
set_option maxRecDepth 100000
theorem strLaw : Keyed Try.prog 9 := string_keyed Try.underlying9
def klS (u : ByteArray) : Lit := .string u.data.toList
theorem keyOf_str' {u : ByteArray} (h : u.size ≤ maxLen) : keyOf Try.prog 9 (.string u) = some (klS u) := keyOf_string_mk Try.underlying9 h
theorem klS_ne {u v : ByteArray} (h : u ≠ v) : klS u ≠ klS v := fun e => by
  injection e with e
  obtain ⟨⟨a⟩⟩ := u
  obtain ⟨⟨b⟩⟩ := v
  exact h (by rw [show a = b from e])
noncomputable abbrev strEl := plainElem (H := Unit) Try.prog 9
/-- what the map has at a key -/
def AtS (D : DataW Unit) (u : ByteArray) (o : Option ByteArray) : Prop := match o with
  | some v => v.size ≤ maxLen ∧ has D (klS u) = true ∧ ∀ z, D.atKey (klS u) z = .lit (.string v.data.toList)
  | none => has D (klS u) = false
/-- block b is a map that has just what F says -/
def OwnsSs (W : World) (b n : Nat) (F : ByteArray → Option ByteArray) : Prop := ∃ D : DataW Unit, W.ownsMap Try.prog 9 strEl b n D ∧ IsMap D ∧ ∀ u : ByteArray, u.size ≤ maxLen → AtS D u (F u)
theorem OwnsSs.made (W : World) : OwnsSs (W.alloc (.map #[] 0)) W.heap.size 0 (fun _ => none) := ⟨.map [], World.ownsMap_made _ _ _ _, isMap_empty, fun u hu => rfl⟩
theorem OwnsSs.lt {W : World} {b n : Nat} {F : ByteArray → Option ByteArray} (h : OwnsSs W b n F) : b < W.heap.size := by
  obtain ⟨D, h1, -⟩ := h
  exact h1.lt
theorem OwnsSs.of_blk {W W' : World} {b n : Nat} {F : ByteArray → Option ByteArray} (h : OwnsSs W b n F) (e : W'.heap[b]? = W.heap[b]?) : OwnsSs W' b n F := by
  obtain ⟨D, ⟨es, clock, hb, F', hs, hD⟩, h2⟩ := h
  exact ⟨D, ⟨es, clock, e.trans hb, F', hs, hD⟩, h2⟩
theorem OwnsSs.below {W W' : World} {b n : Nat} {F : ByteArray → Option ByteArray} (h : OwnsSs W b n F) (hb : Below W.heap.size W W') : OwnsSs W' b n F := h.of_blk (hb.block b h.lt)
theorem OwnsSs.mono {W : World} {b n n' : Nat} {F : ByteArray → Option ByteArray} (h : OwnsSs W b n F) (hn : n ≤ n') : OwnsSs W b n' F := by
  obtain ⟨D, h1, h2⟩ := h
  exact ⟨D, h1.mono hn, h2⟩
theorem OwnsSs.put {W : World} {b n : Nat} {F : ByteArray → Option ByteArray} (h : OwnsSs W b n F) (u v : ByteArray) (hu : u.size ≤ maxLen) (hv : v.size ≤ maxLen) (hn : n < maxLen) :
    ∃ W', (Instr.mapUpdate 71 (.map (some b)) (.string u) (.string v)).run Try.prog W = .ok () W' ∧ OwnsSs W' b (n + 1) (fun x => if x = u then some v else F x) ∧ W.grownBy W' (some b) := by
  obtain ⟨D, h1, hM, h2⟩ := h
  obtain ⟨W', hrun, h3, hg⟩ := h1.update strLaw Try.underlying71 hn (keyOf_str' hu) (plainElem_string Try.underlying9 hv)
  refine ⟨W', hrun, ⟨_, h3, hM.put _ _, fun x hx => ?_⟩, hg⟩
  by_cases e : x = u
  · subst e
    simp only [if_pos]
    exact ⟨hv, has_put_same hM (strLaw.key (keyOf_str' hx)) _, fun z => atKey_put_same hM (strLaw.key (keyOf_str' hx)) _ z⟩
  · simp only [if_neg e]
    have h4 := h2 x hx
    cases hF : F x with
    | none =>
      rw [hF] at h4
      show has (D.put (klS u) _) (klS x) = false
      rw [has_put_other (klS_ne e)]; exact h4
    | some y =>
      rw [hF] at h4
      refine ⟨h4.1, ?_, fun z => ?_⟩
      · rw [has_put_other (klS_ne e)]; exact h4.2.1
      · rw [atKey_put_other (klS_ne e)]; exact h4.2.2 z
theorem turned_grown {W W' : World} {b : Nat} (h : W.mapTurned W' b) : W.grownBy W' (some b) := by
  obtain ⟨es, clock, es', clock', hb, rfl⟩ := h
  exact ⟨rfl, rfl, rfl, by simp [Go.ChangeMaps.setBlock], fun i _ hi => Go.ChangeMaps.heap_setBlock_other hb _ (fun e => hi (by rw [e]))⟩
theorem OwnsSs.drop {W : World} {b n : Nat} {F : ByteArray → Option ByteArray} (h : OwnsSs W b n F) (u : ByteArray) (hu : u.size ≤ maxLen) (ty : TypeId) :
    ∃ W', (Builtin.delete_ #[71, 9] ty #[.map (some b), .string u]).run Try.prog W = .ok (.tuple #[]) W' ∧ OwnsSs W' b n (fun x => if x = u then none else F x) ∧ W.grownBy W' (some b) := by
  obtain ⟨D, h1, hM, h2⟩ := h
  obtain ⟨W', hrun, h3, ht⟩ := h1.drop strLaw Try.underlying71 (keyOf_str' hu) ty
  refine ⟨W', hrun, ⟨_, h3, hM.del _, fun x hx => ?_⟩, turned_grown ht⟩
  by_cases e : x = u
  · subst e
    simp only [if_pos]
    exact has_del_same
  · simp only [if_neg e]
    have h4 := h2 x hx
    cases hF : F x with
    | none =>
      rw [hF] at h4
      show has (D.del (klS u)) (klS x) = false
      rw [has_del_other (klS_ne e)]; exact h4
    | some y =>
      rw [hF] at h4
      refine ⟨h4.1, ?_, fun z => ?_⟩
      · rw [has_del_other (klS_ne e)]; exact h4.2.1
      · rw [atKey_del_other (klS_ne e)]; exact h4.2.2 z
theorem zeroStr (W : World) : (zeroValue 9).run Try.prog W = .ok (.string ⟨#[]⟩) W := by kernel_rfl
theorem plainElem_str_inv {P : Program} {e : TypeId} (he : P.underlying e = some .string) {v : Value} {z : DataW Unit × List MemPlace} (h : plainElem P e v = some z) : ∃ s : ByteArray, v = .string s ∧ z = (.lit (.string s.data.toList), []) := by
  unfold plainElem at h
  rw [he] at h
  cases v <;> simp at h
  exact ⟨_, rfl, h.2.symm⟩
theorem OwnsSs.look {W : World} {b n : Nat} {F : ByteArray → Option ByteArray} (h : OwnsSs W b n F) (u v : ByteArray) (hu : u.size ≤ maxLen) (hF : F u = some v) : (Instr.lookup 71 (.map (some b)) (.string u) false).run Try.prog W = .ok (.string v) W := by
  obtain ⟨D, h1, hM, h2⟩ := h
  have h4 := h2 u hu
  rw [hF] at h4
  obtain ⟨y, ps, hrun, hv⟩ := h1.lookup strLaw Try.underlying71 (zeroStr W) (plainElem_string Try.underlying9 (by decide)) (keyOf_str' hu)
  obtain ⟨s, rfl, e⟩ := plainElem_str_inv Try.underlying9 hv
  rw [h4.2.2] at e
  have : klS v = klS s := by
    have := congrArg Prod.fst e
    injection this
  have hvs : v = s := by
    by_cases q : v = s
    · exact q
    · exact absurd this (klS_ne q)
  rw [hvs]
  exact hrun
end Go.Proofs.Ytbnodgoccmhjkaa.Tithe
