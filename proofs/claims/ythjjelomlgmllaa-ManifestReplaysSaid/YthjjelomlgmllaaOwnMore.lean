/- Rows of a call's own: appended to out of a slice that reads as a list, set at a place: general, no program in sight. -/
import Derived.Test.YthjjelomlgmllaaSlice
import Derived.Laws.AppendOwnNone
namespace Go.Proofs.Ythjjelomlgmllaa.Tithe
open Go.RowKit Go.Sort
set_option linter.unusedVariables false
theorem run_append_none {P : Program} {w : World} (base : Nat) (t ty e : TypeId) (i : TypeInfo) (size : Nat) (ht : P.underlying t = some (.slice e)) (hi : P.info? e = some i)
    (v : Value) (n : Nat) (xs : List Value) (hown : w.ownsRow base e size v n xs) (c : Nat) :
    (Builtin.append_ #[t, t] ty #[v, .slice none 0 c]).run P w = .ok v w := by
  rcases hown.2 with ⟨rfl, rfl⟩ | ⟨g, cap, cur, rfl, _, _, hnc, _⟩
  · simp [Builtin.append_, run_underlying ht, sizeOf, typeInfo, hi, Builtin.lenOf, Builtin.firstCells]
  · simp [Builtin.append_, run_underlying ht, sizeOf, typeInfo, hi, Builtin.lenOf, Builtin.firstCells, hnc, storeCells]
theorem wpList_append_none {P : Program} {w : World} {ops : Array Oper} {rest : List Oper} {o : Oper} {a : Act} {Q : Exit → Act → World → Prop} (hgd : o.guard = none) (s x : Operand) (t : TypeId)
    (ho : o.op = .call { callee := .builtin .append, args := #[s, x], argTypes := #[t, t] })
    (base : Nat) (e : TypeId) (i : TypeInfo) (size : Nat) (ht : P.underlying t = some (.slice e)) (hi : P.info? e = some i)
    (v : Value) (n : Nat) (xs : List Value) (hs : a.eval s = v) (hown : w.ownsRow base e size v n xs) (c : Nat) (hx : a.eval x = .slice none 0 c)
    (h : wpList P ops Q rest (a.put o.dst v) w) : wpList P ops Q (o :: rest) a w := by
  refine wpList_plain hgd fun K hK => ?_
  have hrun := run_append_none (P := P) (w := w) base t o.type e i size ht hi v n xs hown c
  unfold Oper.wp
  simp [execOp, ho, resolve, invoke, builtin, hs, hx, hrun, Result.andThen]
  exact hK _ _ h
theorem wpList_append_sl {P : Program} {w : World} {ops : Array Oper} {rest : List Oper} {o : Oper} {a : Act} {Q : Exit → Act → World → Prop} (hgd : o.guard = none) (s x : Operand) (t : TypeId)
    (ho : o.op = .call { callee := .builtin .append, args := #[s, x], argTypes := #[t, t] })
    (base : Nat) (e : TypeId) (i : TypeInfo) (z : Value) (size bytes : Nat) (ht : P.underlying t = some (.slice e)) (hi : P.info? e = some i) (hz : i.zero = some z)
    (hsize : i.size = size) (hby : i.bytes = bytes) (hzs : z.cells.size = size) (hsz : 0 < size)
    (v : Value) (n : Nat) (xs : List Value) (hs : a.eval s = v) (hown : w.ownsRow base e size v n xs)
    {α : Type} {enc : α → List Value} (he : ∀ x, (enc x).length = size) (l : List α) (m : Nat) (hm : m = l.length) (vx : Value) (hx : a.eval x = vx) (hsrc : IsSl enc size w vx l) (h1 : ∀ u ∈ flat enc l, u.oneCell' = true)
    (h63 : n + m ≤ maxLen) (hbytes : (n + m) * bytes ≤ 140737488355328) (hbase : base ≤ w.heap.size)
    (h : ∀ v' w', w'.ownsRow base e size v' (n + m) (xs ++ flat enc l) → w.grownBy w' v.ownBlock → wpList P ops Q rest (a.put o.dst v') w') : wpList P ops Q (o :: rest) a w := by
  subst hm
  obtain ⟨ad, c, rfl, h2, h3, h4⟩ := id hsrc
  cases ad with
  | none =>
    have hl : l = [] := by
      rcases Nat.eq_zero_or_pos l.length with q | q
      · exact List.eq_nil_of_length_eq_zero q
      · obtain ⟨_, _, e, _⟩ := h4 (by rintro rfl; simp at q); cases e
    subst hl
    refine wpList_append_none hgd s x t ho base e i size ht hi v n xs hs hown c hx ?_
    exact h v w (by simpa [flat] using hown) (World.grownBy.refl _ _)
  | some ad =>
    refine wpList_append_own _ hgd s x t ho base e i z size bytes ht hi hz hsize hby hzs hsz v n xs hs hown ad l.length c (flat enc l) hx (flat_length he l) ?_ h1 h63 hbytes hbase ?_
    · intro j u hj
      have hpos : l ≠ [] := by rintro rfl; simp [flat] at hj
      obtain ⟨b, off, e, -⟩ := h4 hpos
      injection e with e
      subst e
      exact hsrc.news he j u hj
    · intro v' w' q1 q2 _
      exact h v' w' q1 q2
/-- append, as one step of a drawn region, where its run is known -/
theorem wp_append_run {P : Program} {o : Oper} {a : Act} {w : World} {K : Act → World → Prop} {Q : Exit → Act → World → Prop} (s x : Operand) (t : TypeId)
    (ho : o.op = .call { callee := .builtin .append, args := #[s, x], argTypes := #[t, t] }) (vs vx v' : Value) (w' : World) (hs : a.eval s = vs) (hx : a.eval x = vx)
    (hrun : (Builtin.append_ #[t, t] o.type #[vs, vx]).run P w = .ok v' w') (h : K (a.put o.dst v') w') : Oper.wp P o a w K Q := by
  unfold Oper.wp
  simp [execOp, ho, resolve, invoke, builtin, hs, hx, hrun, Result.andThen]
  exact h
theorem own_blk {W : World} {base g n cap : Nat} {e : TypeId} {size : Nat} {xs : List Value} (h : W.ownsRow base e size (.slice (some ⟨g, 0, none⟩) n cap) n xs) :
    ∃ cur, W.heap[g]? = some (.cells cur e (0, 0)) ∧ base ≤ g ∧ n ≤ cap ∧ cap ≤ maxLen ∧ cur.size = cap * size ∧ cur.toList.take (n * size) = xs := by
  rcases h.2 with ⟨q, _⟩ | ⟨g', cap', cur, q, hb, hg, h1, h2, h3, h4⟩
  · cases q
  · injection q with q1 q2 q3
    injection q1 with q1
    injection q1 with q1
    subst q1 q3
    exact ⟨cur, hg, hb, h1, h2, h3, h4⟩
theorem own_of {W : World} {base g n cap : Nat} {e : TypeId} {size : Nat} {xs : List Value} {cur : Array Value} (h : W.heap[g]? = some (.cells cur e (0, 0))) (hb : base ≤ g) (h1 : n ≤ cap) (h2 : cap ≤ maxLen) (h3 : cur.size = cap * size) (h4 : cur.toList.take (n * size) = xs) :
    W.ownsRow base e size (.slice (some ⟨g, 0, none⟩) n cap) n xs := by
  refine ⟨?_, .inr ⟨g, cap, cur, rfl, hb, h, h1, h2, h3, h4⟩⟩
  rw [← h4, List.length_take, Array.length_toList, h3]
  exact Nat.min_eq_left (Nat.mul_le_mul_right _ h1)
theorem cell_of_blk {w : World} {b : Nat} {cs : Array Value} {t : TypeId} {fr : Nat × Nat} (h : w.heap[b]? = some (.cells cs t fr)) (i : Nat) : w.cell? ⟨b, i, none⟩ = cs[i]? := by
  simp [World.cell?, h]
theorem frozen_of_blk {w : World} {b : Nat} {cs : Array Value} {t : TypeId} (h : w.heap[b]? = some (.cells cs t (0, 0))) (i : Nat) : w.frozen? ⟨b, i, none⟩ = false := by
  simp [World.frozen?, h]
theorem grown_set (w : World) (g i : Nat) (v : Value) : w.grownBy (w.setCell ⟨g, i, none⟩ v) (some g) :=
  ⟨rfl, rfl, rfl, by simp [World.setCell], fun k _ hn => Below.heap_setCell w _ _ k (fun e => hn (by rw [e]))⟩
theorem blk_of_alloc (w : World) (o : Obj) : (w.alloc o).heap[w.heap.size]? = some o := by
  show (w.heap.push _)[w.heap.size]? = _; rw [Array.getElem?_push_size]
theorem blk_old {w : World} {b : Nat} {x : Obj} (h : w.heap[b]? = some x) (o : Obj) : (w.alloc o).heap[b]? = some x :=
  (Below.heap_alloc _ _ _ (Array.getElem?_eq_some_iff.1 h).1).trans h
theorem blk_bel {B : Nat} {w w' : World} {b : Nat} {x : Obj} (hb : Below B w w') (hlt : b < B) (h : w.heap[b]? = some x) : w'.heap[b]? = some x := (hb.block b hlt).trans h
theorem blk_bels {w w' : World} {b : Nat} {x : Obj} (hb : Below w.heap.size w w') (h : w.heap[b]? = some x) : w'.heap[b]? = some x := (hb.block b (Array.getElem?_eq_some_iff.1 h).1).trans h
theorem blk_lt {w : World} {b : Nat} {x : Obj} (h : w.heap[b]? = some x) : b < w.heap.size := (Array.getElem?_eq_some_iff.1 h).1
theorem blk_set {V : World} {b i : Nat} {cs : Array Value} {ty : TypeId} {fr : Nat × Nat} {v : Value} (h : V.heap[b]? = some (.cells cs ty fr)) : (V.setCell ⟨b, i, none⟩ v).heap[b]? = some (.cells (cs.setIfInBounds i v) ty fr) := by
  simp [World.setCell, Array.getElem?_modify, h]
theorem set9g {V : World} {b : Nat} {t : TypeId} {cs : Array Value} (hs : cs.size = 9) (h : V.heap[b]? = some (.cells cs t (0, 0))) (x0 x1 x2 x3 x4 x5 x6 x7 x8 : Value) :
    (((((((((V.setCell ⟨b, 0, none⟩ x0).setCell ⟨b, 1, none⟩ x1).setCell ⟨b, 2, none⟩ x2).setCell ⟨b, 3, none⟩ x3).setCell ⟨b, 4, none⟩ x4).setCell ⟨b, 5, none⟩ x5).setCell ⟨b, 6, none⟩ x6).setCell ⟨b, 7, none⟩ x7).setCell ⟨b, 8, none⟩ x8).heap[b]? = some (.cells #[x0, x1, x2, x3, x4, x5, x6, x7, x8] t (0, 0)) := by
  obtain ⟨l⟩ := cs
  match l, hs, h with
  | [a0, a1, a2, a3, a4, a5, a6, a7, a8], _, h =>
    have h0 : (V.setCell ⟨b, 0, none⟩ x0).heap[b]? = some (.cells #[x0, a1, a2, a3, a4, a5, a6, a7, a8] t (0, 0)) := blk_set h
    have h1 : ((V.setCell ⟨b, 0, none⟩ x0).setCell ⟨b, 1, none⟩ x1).heap[b]? = some (.cells #[x0, x1, a2, a3, a4, a5, a6, a7, a8] t (0, 0)) := blk_set h0
    have h2 : (((V.setCell ⟨b, 0, none⟩ x0).setCell ⟨b, 1, none⟩ x1).setCell ⟨b, 2, none⟩ x2).heap[b]? = some (.cells #[x0, x1, x2, a3, a4, a5, a6, a7, a8] t (0, 0)) := blk_set h1
    have h3 : ((((V.setCell ⟨b, 0, none⟩ x0).setCell ⟨b, 1, none⟩ x1).setCell ⟨b, 2, none⟩ x2).setCell ⟨b, 3, none⟩ x3).heap[b]? = some (.cells #[x0, x1, x2, x3, a4, a5, a6, a7, a8] t (0, 0)) := blk_set h2
    have h4 : (((((V.setCell ⟨b, 0, none⟩ x0).setCell ⟨b, 1, none⟩ x1).setCell ⟨b, 2, none⟩ x2).setCell ⟨b, 3, none⟩ x3).setCell ⟨b, 4, none⟩ x4).heap[b]? = some (.cells #[x0, x1, x2, x3, x4, a5, a6, a7, a8] t (0, 0)) := blk_set h3
    have h5 : ((((((V.setCell ⟨b, 0, none⟩ x0).setCell ⟨b, 1, none⟩ x1).setCell ⟨b, 2, none⟩ x2).setCell ⟨b, 3, none⟩ x3).setCell ⟨b, 4, none⟩ x4).setCell ⟨b, 5, none⟩ x5).heap[b]? = some (.cells #[x0, x1, x2, x3, x4, x5, a6, a7, a8] t (0, 0)) := blk_set h4
    have h6 : (((((((V.setCell ⟨b, 0, none⟩ x0).setCell ⟨b, 1, none⟩ x1).setCell ⟨b, 2, none⟩ x2).setCell ⟨b, 3, none⟩ x3).setCell ⟨b, 4, none⟩ x4).setCell ⟨b, 5, none⟩ x5).setCell ⟨b, 6, none⟩ x6).heap[b]? = some (.cells #[x0, x1, x2, x3, x4, x5, x6, a7, a8] t (0, 0)) := blk_set h5
    have h7 : ((((((((V.setCell ⟨b, 0, none⟩ x0).setCell ⟨b, 1, none⟩ x1).setCell ⟨b, 2, none⟩ x2).setCell ⟨b, 3, none⟩ x3).setCell ⟨b, 4, none⟩ x4).setCell ⟨b, 5, none⟩ x5).setCell ⟨b, 6, none⟩ x6).setCell ⟨b, 7, none⟩ x7).heap[b]? = some (.cells #[x0, x1, x2, x3, x4, x5, x6, x7, a8] t (0, 0)) := blk_set h6
    have h8 : (((((((((V.setCell ⟨b, 0, none⟩ x0).setCell ⟨b, 1, none⟩ x1).setCell ⟨b, 2, none⟩ x2).setCell ⟨b, 3, none⟩ x3).setCell ⟨b, 4, none⟩ x4).setCell ⟨b, 5, none⟩ x5).setCell ⟨b, 6, none⟩ x6).setCell ⟨b, 7, none⟩ x7).setCell ⟨b, 8, none⟩ x8).heap[b]? = some (.cells #[x0, x1, x2, x3, x4, x5, x6, x7, x8] t (0, 0)) := blk_set h7
    exact h8
theorem set4g {V : World} {b : Nat} {t : TypeId} {cs : Array Value} (hs : cs.size = 4) (h : V.heap[b]? = some (.cells cs t (0, 0))) (x0 x1 x2 x3 : Value) :
    ((((V.setCell ⟨b, 0, none⟩ x0).setCell ⟨b, 1, none⟩ x1).setCell ⟨b, 2, none⟩ x2).setCell ⟨b, 3, none⟩ x3).heap[b]? = some (.cells #[x0, x1, x2, x3] t (0, 0)) := by
  obtain ⟨l⟩ := cs
  match l, hs, h with
  | [a0, a1, a2, a3], _, h =>
    have h0 : (V.setCell ⟨b, 0, none⟩ x0).heap[b]? = some (.cells #[x0, a1, a2, a3] t (0, 0)) := blk_set h
    have h1 : ((V.setCell ⟨b, 0, none⟩ x0).setCell ⟨b, 1, none⟩ x1).heap[b]? = some (.cells #[x0, x1, a2, a3] t (0, 0)) := blk_set h0
    have h2 : (((V.setCell ⟨b, 0, none⟩ x0).setCell ⟨b, 1, none⟩ x1).setCell ⟨b, 2, none⟩ x2).heap[b]? = some (.cells #[x0, x1, x2, a3] t (0, 0)) := blk_set h1
    have h3 : ((((V.setCell ⟨b, 0, none⟩ x0).setCell ⟨b, 1, none⟩ x1).setCell ⟨b, 2, none⟩ x2).setCell ⟨b, 3, none⟩ x3).heap[b]? = some (.cells #[x0, x1, x2, x3] t (0, 0)) := blk_set h2
    exact h3
theorem own_setAt {W : World} {base g n cap : Nat} {e : TypeId} {size : Nat} {xs : List Value} (h : W.ownsRow base e size (.slice (some ⟨g, 0, none⟩) n cap) n xs) (j : Nat) (u : Value) (hj : j < n * size) :
    (W.setCell ⟨g, j, none⟩ u).ownsRow base e size (.slice (some ⟨g, 0, none⟩) n cap) n (xs.set j u) := by
  obtain ⟨cur, hg, hb, h1, h2, h3, h4⟩ := own_blk h
  refine own_of (blk_set hg) hb h1 h2 (by rw [Array.size_setIfInBounds]; exact h3) ?_
  rw [← h4, Array.toList_setIfInBounds]
  apply List.ext_getElem?
  intro i
  simp only [List.getElem?_take, List.getElem?_set, List.length_take, Array.length_toList]
  by_cases hi : i < n * size
  · rw [if_pos hi]
    by_cases hji : j = i
    · subst hji
      have : n * size ≤ cap * size := Nat.mul_le_mul_right _ h1
      rw [if_pos rfl, if_pos rfl, if_pos (by omega), if_pos (by omega)]
    · rw [if_neg hji, if_neg hji, if_pos hi]
  · rw [if_neg hi, if_neg (by omega), if_neg hi]
/-- a row is kept by a step that turns a block of another element type -/
theorem own_typed {W W' : World} {base : Nat} {e : TypeId} {size n : Nat} {v : Value} {xs : List Value} {row : Option Nat} (h : W.ownsRow base e size v n xs) (hg : W.grownBy W' row) (hr : ∀ g, row = some g → ∃ cur t fr, W.heap[g]? = some (.cells cur t fr) ∧ t ≠ e) : W'.ownsRow base e size v n xs := by
  refine ⟨h.1, ?_⟩
  rcases h.2 with h0 | ⟨g, cap, cur, hv, hb, hh, r⟩
  · exact .inl h0
  · refine .inr ⟨g, cap, cur, hv, hb, (hg.block g (Array.getElem?_eq_some_iff.1 hh).1 (fun q => ?_)).trans hh, r⟩
    obtain ⟨cur', t, fr, hc, hne⟩ := hr g q.symm
    rw [hh] at hc
    injection hc with hc
    injection hc with _ hc
    exact hne hc.symm
/-- the block of a row of a call's own -/
theorem own_rowblk {W : World} {base : Nat} {e : TypeId} {size n : Nat} {v : Value} {xs : List Value} (h : W.ownsRow base e size v n xs) : ∀ g, v.ownBlock = some g → ∃ cur, W.heap[g]? = some (.cells cur e (0, 0)) := by
  intro g hg
  rcases h.2 with ⟨rfl, _⟩ | ⟨g', cap, cur, rfl, hb, hh, r⟩
  · cases hg
  · cases hg; exact ⟨cur, hh⟩
theorem own_frozen {W : World} {base g n cap : Nat} {e : TypeId} {size : Nat} {xs : List Value} (h : W.ownsRow base e size (.slice (some ⟨g, 0, none⟩) n cap) n xs) (j : Nat) : W.frozen? ⟨g, j, none⟩ = false := by
  obtain ⟨cur, hg, -⟩ := own_blk h
  simp [World.frozen?, hg]
theorem flat_set {α : Type} {enc : α → List Value} {sz : Nat} (he : ∀ x, (enc x).length = sz) : ∀ (l : List α) (i : Nat) (x y : α) (j : Nat) (u : Value), l[i]? = some x → j < sz → (enc x).set j u = enc y → (flat enc l).set (i * sz + j) u = flat enc (l.set i y)
  | [], i, x, y, j, u, h, _, _ => by simp at h
  | z :: l, 0, x, y, j, u, h, hj, hs => by
    simp only [List.getElem?_cons_zero, Option.some.injEq] at h
    subst h
    show (enc z ++ flat enc l).set (0 * sz + j) u = enc y ++ flat enc l
    rw [Nat.zero_mul, Nat.zero_add, List.set_append_left _ _ (by rw [he]; exact hj), hs]
  | z :: l, i + 1, x, y, j, u, h, hj, hs => by
    simp only [List.getElem?_cons_succ] at h
    show (enc z ++ flat enc l).set ((i + 1) * sz + j) u = enc z ++ flat enc (l.set i y)
    rw [List.set_append_right _ _ (by rw [he, Nat.add_mul]; omega), he, show (i + 1) * sz + j - sz = i * sz + j by rw [Nat.add_mul]; omega, flat_set he l i x y j u h hj hs]
end Go.Proofs.Ythjjelomlgmllaa.Tithe
