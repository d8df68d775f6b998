/- The document's Apply: walked. -/
import Derived.Test.YtcmndnglmpkpdaaDoorRefCheck
import Derived.Test.YtcmndnglmpkpdaaDoorLevAppI
import Derived.Deep.RegionHeld3
namespace Go.Proofs.YtcmndnglmpkpdaaDoor.Tithe
open Go.RowKit Go.Sort Go.Shelf
set_option linter.unusedVariables false
set_option linter.unusedSimpArgs false
set_option maxRecDepth 100000
/-! ### a version of the document's, in a block that is written -/
def Slv (cs : Array Value) : Prop := ∀ (i : Nat) (y : Value), cs[i]? = some y → ∃ a n c, y = Value.slice a n c
theorem isMr_slice {w : World} {v : Value} {l : List Mr} (h : IsMr w v l) : ∃ a c, v = .slice a l.length c := by
  obtain ⟨a, c, e, -⟩ := h.1; exact ⟨a, c, e⟩
theorem isVn_slv {w : World} {U : Vn} (h : IsVn w U) : Slv U.cells := by
  intro i y hy
  have hi : i < 4 := (Array.getElem?_eq_some_iff.1 hy).1
  rw [vn_cell U hi] at hy
  injection hy with hy
  obtain ⟨a, c, e⟩ := isMr_slice (h i hi)
  exact ⟨a, _, c, hy ▸ e⟩
theorem isSl_far {α : Type} {enc : α → List Value} {sz : Nat} {W : World} {v : Value} {l : List α} {ob n : Nat} {cs : Array Value} {t : TypeId} {fr : Nat × Nat} {u : Value} (h : IsSl enc sz W v l) (hb : W.heap[ob]? = some (.cells cs t fr)) (hs : Slv cs) (hz : ∀ x, ∃ q, (enc x)[0]? = some (.int .i64 q)) : IsSl enc sz (W.setCell ⟨ob, n, none⟩ u) v l := by
  obtain ⟨a, c, e, h1, h2, h3⟩ := h
  refine ⟨a, c, e, h1, h2, fun hl => ?_⟩
  obtain ⟨b, off, ea, hc⟩ := h3 hl
  refine ⟨b, off, ea, fun i x hx j y hy => ?_⟩
  have hne : b ≠ ob := by
    rintro rfl
    obtain ⟨q, hq⟩ := hz x
    have h0 := hc i x hx 0 _ hq
    rw [cell_of_blk hb] at h0
    obtain ⟨a', n', c', e'⟩ := hs _ _ h0
    cases e'
  rw [← hc i x hx j y hy]
  have hh : (W.setCell ⟨ob, n, none⟩ u).heap[b]? = W.heap[b]? := Below.heap_setCell W ⟨ob, n, none⟩ u b hne
  simp only [World.cell?, hh]
theorem isMr_far {W : World} {v : Value} {l : List Mr} {ob n : Nat} {cs : Array Value} {t : TypeId} {fr : Nat × Nat} {u : Value} (h : IsMr W v l) (hb : W.heap[ob]? = some (.cells cs t fr)) (hs : Slv cs) : IsMr (W.setCell ⟨ob, n, none⟩ u) v l :=
  ⟨isSl_far h.1 hb hs (fun x => ⟨_, rfl⟩), fun r hr => isSl_far (h.2 r hr) hb hs (fun x => ⟨_, rfl⟩)⟩
def gdM (m : Mt) : Prop := m.refs.length ≤ 1000000 ∧ m.a.u.size ≤ maxLen ∧ m.b.u.size ≤ maxLen
structure RpQ (w : World) (ob N : Nat) (U : Vn) (W : World) : Prop where
  out : W.heap[ob]? = some (.cells U.cells 68 (0, 0))
  vn : IsVn W U
  bel : Below w.heap.size w W
  hob : w.heap.size ≤ ob
  len : ∀ n, n < 4 → (U.l n).length ≤ N
  good : ∀ n, n < 4 → ∀ r ∈ U.l n, gdM r.1
theorem RpQ.below {w W W' : World} {ob N : Nat} {U : Vn} (h : RpQ w ob N U W) (hb : Below W.heap.size W W') : RpQ w ob N U W' :=
  ⟨blk_bels hb h.out, h.vn.below hb, h.bel.trans (hb.mono h.bel.size), h.hob, h.len, h.good⟩
theorem RpQ.put {w W : World} {ob N M n : Nat} {U : Vn} {v' : Value} {l' : List Mr} (h : RpQ w ob N U W) (hn : n < 4) (hv : IsMr W v' l') (hN : N ≤ M) (hl : l'.length ≤ M) (hg : ∀ r ∈ l', gdM r.1) : RpQ w ob M (U.upd n v' l') (W.setCell ⟨ob, n, none⟩ v') := by
  have hs := isVn_slv h.vn
  refine ⟨?_, fun m hm => ?_, h.bel.setCell h.hob _, h.hob, fun m hm => ?_, fun m hm => ?_⟩
  · rw [blk_set h.out, upd_cells U hn]
  · rw [upd_v, upd_l]
    by_cases e : m = n
    · rw [if_pos e, if_pos e]; exact isMr_far hv h.out hs
    · rw [if_neg e, if_neg e]; exact isMr_far (h.vn m hm) h.out hs
  · rw [upd_l]; split
    · exact hl
    · exact Nat.le_trans (h.len m hm) hN
  · rw [upd_l]; split
    · exact hg
    · exact h.good m hm
theorem lvOf_updV (U : Vn) (n : Nat) (v : Value) (x : List Mr) : lvOf (U.upd n v x).l = (lvOf U.l).upd n (x.map (·.1)) := by
  funext i
  show ((if i = n then x else U.l i).map (·.1)) = _
  unfold Lv.upd lvOf
  split <;> rfl
/-- what the document's Apply answers -/
def RpOut (w : World) (V : Vn) (zs : List Int) (pm : List (Int × Mt)) (e : Ending) (w' : World) : Prop :=
  match applyP (lvOf V.l) zs pm with
  | none => e = .returned (.tuple #[.pointer none, .bool false]) ∧ Below w.heap.size w w'
  | some L' => ∃ (X : Vn) (xb : Nat), e = .returned (.tuple #[.pointer (some ⟨xb, 0, none⟩), .bool true]) ∧ w'.heap[xb]? = some (.cells X.cells 68 (0, 0)) ∧ IsVn w' X ∧ (∀ n, n < 4 → lvOf X.l n = L' n) ∧ w.heap.size ≤ xb ∧ Below w.heap.size w w'
theorem rpOut_no {w w' : World} {V : Vn} {zs : List Int} {pm : List (Int × Mt)} (h : applyP (lvOf V.l) zs pm = none) (hb : Below w.heap.size w w') : RpOut w V zs pm (.returned (.tuple #[.pointer none, .bool false])) w' := by
  unfold RpOut; rw [h]; exact ⟨rfl, hb⟩
theorem rpOut_yes {w w' : World} {V X : Vn} {zs : List Int} {pm : List (Int × Mt)} {L' : Lv} {xb N : Nat} (h : applyP (lvOf V.l) zs pm = some L') (hu : lvOf X.l = L') (hq : RpQ w xb N X w') : RpOut w V zs pm (.returned (.tuple #[.pointer (some ⟨xb, 0, none⟩), .bool true])) w' := by
  unfold RpOut; rw [h]; exact ⟨X, xb, rfl, hq.out, hq.vn, fun n _ => by rw [hu], hq.hob, hq.bel⟩
theorem has15_lt {V : Vn} {n i : Nat} {z : Int} (hp : hasP (lvOf V.l) z = some (n, i)) : n < 4 ∧ i < (V.l n).length := by
  rcases hasF_tabs V.l z with ⟨h, -⟩ | ⟨n', i', hn, h, -, hi⟩
  · rw [hp] at h; cases h
  · rw [hp] at h; cases h
    exact ⟨hn, (List.findIdx?_eq_some_iff_getElem.1 hi).1⟩
theorem insP_at {l : List Mr} {k : Ky} {i : Nat} {x : Mr} (hx : l[i]? = some x) (h : ¬ cmpK x.1.a k < 0) (hlo : ∀ j y, j < i → l[j]? = some y → cmpK y.1.a k < 0) : insP (l.map (·.1)) k = i := by
  have hi := (List.getElem?_eq_some_iff.1 hx).1
  unfold insP
  rw [findIdx_map, List.findIdx?_eq_some_iff_getElem.2 ⟨hi, by rw [(List.getElem?_eq_some_iff.1 hx).2]; simp; omega, fun j hj => by have := hlo j _ hj (List.getElem?_eq_getElem (by omega)); simp; omega⟩]
theorem insP_end {l : List Mr} {k : Ky} (hlo : ∀ j y, j < l.length → l[j]? = some y → cmpK y.1.a k < 0) : insP (l.map (·.1)) k = l.length := by
  unfold insP
  rw [findIdx_map, List.findIdx?_eq_none_iff.2 (fun x hx => by
    obtain ⟨j, hj, rfl⟩ := List.mem_iff_getElem.1 hx
    have := hlo j _ hj (List.getElem?_eq_getElem hj)
    simp; omega), List.length_map]
theorem map_ins {l : List Mr} {i : Nat} {r : Mr} : (l.take i ++ r :: l.drop i).map (·.1) = (l.map (·.1)).take i ++ r.1 :: (l.map (·.1)).drop i := by
  rw [List.map_append, List.map_cons, List.map_take, List.map_drop]
theorem drop_step {U : Vn} {n i : Nat} {v : Value} {a : Int} {X : Option (Lv × Int)} (h : X = some ((lvOf U.l).upd n ((lvOf U.l n).eraseIdx i), a)) : X = some (lvOf (U.upd n v ((U.l n).eraseIdx i)).l, a) := by
  rw [h, lvOf_updV, map_erase]; rfl
theorem addP_some {U : Vn} {at0 : Int} {p : Int × Mr} {n i : Nat} (hn : p.1 = n) (h4 : n < 4) (hi : i = addAt (lvOf U.l) at0 (p.1, p.2.1)) (v : Value) : addP (lvOf U.l) at0 (p.1, p.2.1) = some (lvOf (U.upd n v ((U.l n).take i ++ p.2 :: (U.l n).drop i)).l) := by
  unfold addP
  rw [if_neg (by dsimp only; omega), ← hi, lvOf_updV, map_ins]
  have : (p.1, p.2.1).1.toNat = n := by dsimp only; omega
  rw [this]
  rfl
theorem mem_ins {l : List Mr} {i : Nat} {r x : Mr} (h : x ∈ l.take i ++ r :: l.drop i) : x = r ∨ x ∈ l := by
  rcases List.mem_append.1 h with h | h
  · exact .inr (List.mem_of_mem_take h)
  · rcases List.mem_cons.1 h with h | h
    · exact .inl h
    · exact .inr (List.mem_of_mem_drop h)
theorem len_ins {l : List Mr} {i : Nat} {r : Mr} (h : i ≤ l.length) : (l.take i ++ r :: l.drop i).length = l.length + 1 := by
  rw [List.length_append, List.length_take, List.length_cons, List.length_drop]; omega
theorem upd_len0 {X : Vn} {n A I : Nat} {v : Value} {r : Mr} (h : A ≤ (X.l 0).length) (hI : I ≤ (X.l n).length) : A ≤ ((X.upd n v ((X.l n).take I ++ r :: (X.l n).drop I)).l 0).length := by
  rw [upd_l]; split
  · rename_i e; subst e; rw [len_ins hI]; omega
  · exact h
theorem dropAt_le {U : Vn} {n i : Nat} {at0 : Int} {v : Value} (hi : i < (U.l n).length) (h : at0 ≤ (U.l 0).length) : dropAt n i at0 ≤ ((U.upd n v ((U.l n).eraseIdx i)).l 0).length := by
  rw [upd_l]
  by_cases e : 0 = n
  · subst e
    rw [if_pos rfl, List.length_eraseIdx_of_lt hi]
    unfold dropAt
    split
    · omega
    · split <;> omega
  · rw [if_neg e]
    unfold dropAt
    rw [if_neg (fun q => e q.1.symm), if_neg (fun q => e q.1.symm)]
    exact h
theorem addAt_pos {X : Vn} {at0 : Int} {n I : Nat} {m : Mt} (hn : 0 < n) (h : insP ((X.l n).map (·.1)) m.a = I) : I = addAt (lvOf X.l) at0 ((n : Int), m) := by
  unfold addAt
  dsimp only
  rw [if_pos (by omega), ← h, Int.toNat_natCast]; rfl
theorem addAt_zero {X : Vn} {at0 : Int} {n A : Nat} {m : Mt} (hn : n = 0) (h : A = (max at0 0).toNat) : A = addAt (lvOf X.l) at0 ((n : Int), m) := by
  unfold addAt
  dsimp only
  rw [if_neg (by omega), h]
theorem tabs_le {l : Nat → List Mr} {B : Nat} : ∀ (m : Nat), (∀ n, n < m → (l n).length ≤ B) → (tabs l m).length ≤ m * B
  | 0, _ => by simp [tabs]
  | m + 1, h => by
    have h1 := tabs_le m (fun n hn => h n (by omega))
    have h2 := h m (by omega)
    show (tabs l m ++ (l m).map (fun r => (m, r))).length ≤ _
    rw [List.length_append, List.length_map, Nat.succ_mul]; omega
attribute [local go_sem] Oper.semAt_some
end Go.Proofs.YtcmndnglmpkpdaaDoor.Tithe
