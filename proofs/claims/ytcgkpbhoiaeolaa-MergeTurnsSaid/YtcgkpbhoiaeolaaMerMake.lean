/- Items made anew: items, all, put, One. -/
import Derived.Test.YtcgkpbhoiaeolaaMerCore
namespace Go.Proofs.Ytcgkpbhoiaeolaa.Tithe
open Go.RowKit Go.Sort
set_option linter.unusedVariables false
def cellsP (l : List It) : List Value := l.flatMap fun x => [.int .i64 x.1, .int .i64 x.2]
theorem cellsP_append (l m : List It) : cellsP (l ++ m) = cellsP l ++ cellsP m := by simp [cellsP]
theorem cellsP_length (l : List It) : (cellsP l).length = 2 * l.length := by
  induction l with
  | nil => rfl
  | cons x l ih => simp only [cellsP, List.flatMap_cons, List.length_append, List.length_cons, List.length_nil] at ih ⊢; omega
theorem cellsP_get (l : List It) : ∀ (i : Nat), i < l.length → (cellsP l)[i * 2]? = some (.int .i64 (l.getD i (0, 0)).1) ∧ (cellsP l)[i * 2 + 1]? = some (.int .i64 (l.getD i (0, 0)).2) := by
  induction l with
  | nil => intro i hi; simp at hi
  | cons x l ih =>
    intro i hi
    cases i with
    | zero => exact ⟨rfl, rfl⟩
    | succ i =>
      have := ih i (by simpa using hi)
      have e : cellsP (x :: l) = .int .i64 x.1 :: .int .i64 x.2 :: cellsP l := rfl
      rw [e, show (i + 1) * 2 = i * 2 + 1 + 1 from by omega, show i * 2 + 1 + 1 + 1 = (i * 2 + 1) + 1 + 1 from rfl]
      simpa using this
theorem cellsP_one (l : List It) : ∀ u ∈ cellsP l, u.oneCell' = true := by
  intro u hu
  unfold cellsP at hu
  simp only [List.mem_flatMap, List.mem_cons, List.not_mem_nil, or_false] at hu
  obtain ⟨x, _, rfl | rfl⟩ := hu <;> rfl
theorem plain_add (b off j : Nat) : (⟨b, off, none⟩ : Addr).add j = ⟨b, off + j, none⟩ := by unfold Addr.add; split <;> simp_all
theorem isIt_own {w : World} {base : Nat} {e : TypeId} {v : Value} {l : List It} (h : w.ownsRow base e 2 v l.length (cellsP l)) : IsIt w v l := by
  rcases Nat.eq_zero_or_pos l.length with z | z
  · obtain rfl : l = [] := List.eq_nil_of_length_eq_zero z
    rcases h.2 with ⟨rfl, _⟩ | ⟨g, cap, cur, rfl, _, _, _, hm, _⟩
    · exact isIt_nil _ _ _ (by simp)
    · exact isIt_nil _ _ _ hm
  · obtain ⟨g, cap, rfl, hb, hlt⟩ := h.form z
    have hc := h.cells (g := g) rfl
    obtain ⟨_, h2⟩ := h
    have hcm : l.length ≤ cap ∧ cap ≤ maxLen := by
      rcases h2 with ⟨h, _⟩ | ⟨g', cap', cur, h, _, _, hn, hm, _⟩
      · cases h
      · injection h with _ _ h; subst h; exact ⟨hn, hm⟩
    refine ⟨_, _, rfl, hcm.1, hcm.2, fun _ => ⟨_, _, rfl, fun i hi => ?_⟩⟩
    obtain ⟨g1, g2⟩ := cellsP_get l i hi
    have c1 := hc _ _ g1
    have c2 := hc _ _ g2
    rw [plain_add] at c1 c2
    exact ⟨c1, c2⟩
theorem itinfo : (Try.prog.info? 42).map (fun i => (i.zero, i.size, i.bytes)) = some (some (.agg #[.int .i64 0, .int .i64 0]), 2, 16) := by kernel_rfl
theorem refitinfo : (Try.prog.info? 44).map (fun i => (i.zero, i.size, i.bytes)) = some (some (.agg #[.int .i64 0, .int .i64 0]), 2, 16) := by kernel_rfl
theorem cellsP_take {l : List It} {k : Nat} (h : k < l.length) : cellsP (l.take (k + 1)) = cellsP (l.take k) ++ [.int .i64 (l.getD k (0, 0)).1, .int .i64 (l.getD k (0, 0)).2] := by
  rw [List.take_succ_eq_append_getElem h, cellsP_append, List.getD_eq_getElem?_getD, List.getElem?_eq_getElem h]; rfl
theorem news2 (W : World) (u v : Value) (t : TypeId) (g : Nat) (hg : g = W.heap.size) : ∀ j z, ([u, v] : List Value)[j]? = some z → (W.alloc (.cells #[u, v] t)).cell? ((⟨g, 0, none⟩ : Addr).add j) = some z := by
  intro j z hj
  subst hg
  rw [plain_add, World.cell?_alloc_mark]
  match j, hj with
  | 0, hj => simpa using hj
  | 1, hj => simpa using hj
  | j + 2, hj => simp at hj
theorem two_one (x y : Int) : ∀ u ∈ ([.int .i64 x, .int .i64 y] : List Value), u.oneCell' = true := by
  intro u hu
  simp only [List.mem_cons, List.not_mem_nil, or_false] at hu
  rcases hu with rfl | rfl <;> rfl
theorem grow_own {w W w1 : World} {B base : Nat} {e : TypeId} {size n : Nat} {v : Value} {xs : List Value} (hb : Below B w W) (h : W.ownsRow base e size v n xs) (hg : W.grownBy w1 v.ownBlock) (h1 : B ≤ base) (h2 : B ≤ W.heap.size) : Below B w w1 :=
  hb.grown hg h2 fun k hk => Nat.le_trans h1 (h.lt k hk).1
theorem items_any (v : Value) (l : List It) (w : World) (h : IsIt w v l) (hlen : l.length ≤ 1000000) :
    Calls Try.prog 19 #[v] w fun e w' => ∃ v', e = .returned v' ∧ w'.ownsRow w.heap.size 42 2 v' l.length (cellsP l) ∧ Below w.heap.size w w' := by
  obtain ⟨i0, hi0, hz0, hz1, hz2⟩ := info_parts itinfo
  obtain ⟨a, c, rfl, -, -, -⟩ := id h
  obtain ⟨-, hc, hm, hx⟩ := h.at
  have Hx := Lib.hid hx
  clear h hx
  obtain ⟨n, hn⟩ : ∃ n, n = l.length := ⟨_, rfl⟩
  rw [← hn] at hc Hx hlen ⊢
  have Hn := Lib.hid hn
  clear hn
  go_enter Try.func19, Try.ntmps19
  go_wp2
  go_loopw [3, 8] (fun o i wr => ∃ k : Nat, k ≤ n ∧ i = .int .i64 k ∧ wr.ownsRow w.heap.size 42 2 o k (cellsP (l.take k)) ∧ Below w.heap.size w wr) (fun _ i _ => n - (intOf i).toNat)
  case atStart => exact ⟨0, Nat.zero_le _, rfl, World.ownsRow_nil w _ _ _, Below.refl _ _⟩
  case round =>
    obtain ⟨k, hk, rfl, hown, hb⟩ := hrel
    by_cases hlt : k < n
    · obtain ⟨b, off, rfl, hcell⟩ := Hx.out (by omega)
      obtain ⟨c1, c2⟩ := hcell k hlt
      have d1 := (hb.cell (block_lt_of_cell c1)).trans c1
      have d2 := (hb.cell (block_lt_of_cell c2)).trans c2
      have hnext : Hid (cellsP (l.take (k + 1)) = cellsP (l.take k) ++ [.int .i64 (l.getD k (0, 0)).1, .int .i64 (l.getD k (0, 0)).2]) := cellsP_take (by rw [← Hn.out]; exact hlt)
      generalize (l.getD k (0, 0)).1 = x at *
      generalize (l.getD k (0, 0)).2 = y at *
      have hwr := hb.size
      clear hcell c1 c2
      go_wp2_with (first | (at_builtin; refine wpList_append_own _ rfl (.tmp 12) (.tmp 18) 27 rfl w.heap.size 42 i0 (.agg #[.int .i64 0, .int .i64 0]) 2 16 Try.underlying27 hi0 hz0 hz1 hz2 rfl (by decide) _ k _ rfl ((hown.alloc _).alloc _) ⟨wr.heap.size + 1, 0, none⟩ 1 1 [.int .i64 x, .int .i64 y] rfl rfl ?c1 ?c2 ?c3 ?c4 ?c5 ?_))
      case c1 => exact news2 _ _ _ _ _ (by simp)
      case c2 => exact two_one _ _
      case c3 => unfold maxLen; omega
      case c4 => omega
      case c5 => simp; omega
      intro v' w1 hown' hgrow _
      have hg : Below w.heap.size w w1 := grow_own ((hb.alloc hwr _).alloc (by simp; omega) _) ((hown.alloc _).alloc _) hgrow (Nat.le_refl _) (by simp; omega)
      rw [← hnext.out] at hown'
      clear hown
      go_wp2
      go_roundw
      case rel => exact ⟨k + 1, by omega, by go_num, hown', hg⟩
      case measure => simp [intOf]; omega
    · obtain rfl : k = n := by omega
      have h2 := hown
      rw [Hn.out, List.take_length] at h2
      rw [← Hn.out] at h2
      have H2 := Lib.hid h2
      clear hown h2
      go_wp2
      go_ret
      exact ⟨_, rfl, H2.out, hb⟩
/-- what another owned row of another type holds is kept -/
theorem own_types {W W' : World} {b1 b2 : Nat} {e1 e2 : TypeId} {s1 s2 n1 n2 : Nat} {x v : Value} {xs ys : List Value} (h : W.ownsRow b1 e1 s1 x n1 xs) (hv : W.ownsRow b2 e2 s2 v n2 ys) (hne : e1 ≠ e2) (hg : W.grownBy W' v.ownBlock) : W'.ownsRow b1 e1 s1 x n1 xs := by
  refine h.kept hg ?_
  rcases h.2 with ⟨rfl, _⟩ | ⟨g, cap, cur, rfl, hb, hh, r⟩
  · exact .inl rfl
  · refine .inr fun e => ?_
    rcases hv.2 with ⟨rfl, _⟩ | ⟨g', cap', cur', rfl, hb', hh', r'⟩
    · cases e
    · injection e with e
      have e' : g = g' := e
      subst e'
      rw [hh] at hh'
      injection hh' with hh'
      injection hh' with _ h2
      exact hne h2
theorem own_below {W W' : World} {base : Nat} {e : TypeId} {size n : Nat} {x : Value} {xs : List Value} (h : W.ownsRow base e size x n xs) (hb : Below W.heap.size W W') : W'.ownsRow base e size x n xs := by
  refine ⟨h.1, ?_⟩
  rcases h.2 with h0 | ⟨g, cap, cur, hv, hbs, hh, r⟩
  · exact .inl h0
  · exact .inr ⟨g, cap, cur, hv, hbs, (hb.block g (Array.getElem?_eq_some_iff.1 hh).1).trans hh, r⟩
theorem own_mono {W : World} {base b2 : Nat} {e : TypeId} {size n : Nat} {x : Value} {xs : List Value} (h : W.ownsRow base e size x n xs) (hb : b2 ≤ base) : W.ownsRow b2 e size x n xs := by
  refine ⟨h.1, ?_⟩
  rcases h.2 with h0 | ⟨g, cap, cur, hv, hbs, r⟩
  · exact .inl h0
  · exact .inr ⟨g, cap, cur, hv, Nat.le_trans hb hbs, r⟩
theorem own_slice {W : World} {base : Nat} {e : TypeId} {size n : Nat} {x : Value} {xs : List Value} (h : W.ownsRow base e size x n xs) : ∃ a c, x = .slice a n c := by
  rcases h.2 with ⟨rfl, rfl⟩ | ⟨g, cap, cur, rfl, _⟩
  · exact ⟨_, _, rfl⟩
  · exact ⟨_, _, rfl⟩
theorem rowinfo : (Try.prog.info? 27).map (fun i => (i.zero, i.size, i.bytes)) = some (some (.slice none 0 0), 1, 24) := by kernel_rfl
theorem news1 (W : World) (u : Value) (t : TypeId) (g : Nat) (hg : g = W.heap.size) : ∀ j z, ([u] : List Value)[j]? = some z → (W.alloc (.cells #[u] t)).cell? ((⟨g, 0, none⟩ : Addr).add j) = some z := by
  intro j z hj
  subst hg
  rw [plain_add, World.cell?_alloc_mark]
  match j, hj with
  | 0, hj => simpa using hj
  | j + 1, hj => simp at hj
def NilOr (v : Value) : Prop := v = .slice none 0 0 ∨ ∃ ad n c, v = .slice (some ad) n c
theorem nilOr_own {w : World} {base : Nat} {e : TypeId} {size n : Nat} {v : Value} {xs : List Value} (h : w.ownsRow base e size v n xs) : NilOr v := by
  rcases h.2 with ⟨rfl, _⟩ | ⟨g, cap, cur, rfl, _⟩
  · exact .inl rfl
  · exact .inr ⟨_, _, _, rfl⟩
theorem isIts_own {w : World} {base : Nat} {e e2 : TypeId} {v : Value} {ls : List (List It)} {vs : List Value} (h : w.ownsRow base e 1 v ls.length vs) (hr : ∀ j, j < ls.length → ∃ x, vs[j]? = some x ∧ w.ownsRow base e2 2 x (ls.getD j []).length (cellsP (ls.getD j []))) : IsIts w v ls := by
  rcases Nat.eq_zero_or_pos ls.length with z | z
  · obtain rfl : ls = [] := List.eq_nil_of_length_eq_zero z
    rcases h.2 with ⟨rfl, _⟩ | ⟨g, cap, cur, rfl, _, _, _, hm, _⟩
    · exact ⟨_, _, rfl, by simp, by simp, fun h => absurd rfl h⟩
    · exact ⟨_, _, rfl, by simp, hm, fun h => absurd rfl h⟩
  · obtain ⟨g, cap, rfl, hb, hlt⟩ := h.form z
    have hc := h.cells (g := g) rfl
    obtain ⟨_, h2⟩ := h
    have hcm : ls.length ≤ cap ∧ cap ≤ maxLen := by
      rcases h2 with ⟨h, _⟩ | ⟨g', cap', cur, h, _, _, hn, hm, _⟩
      · cases h
      · injection h with _ _ h; subst h; exact ⟨hn, hm⟩
    refine ⟨_, _, rfl, hcm.1, hcm.2, fun _ => ⟨_, _, rfl, fun i hi => ?_⟩⟩
    obtain ⟨x, hx, ho⟩ := hr i hi
    obtain ⟨xa, xc, rfl⟩ := own_slice ho
    have c1 := hc _ _ hx
    rw [plain_add] at c1
    exact ⟨_, _, _, c1, isIt_own ho⟩
theorem all_any (v : Value) (ls : List (List It)) (w : World) (h : IsIts w v ls) (hlen : ls.length ≤ 1000) (hlens : ∀ i, i < ls.length → (ls.getD i []).length ≤ 1000) :
    Calls Try.prog 11 #[v] w fun e w' => ∃ v', e = .returned v' ∧ IsIts w' v' ls ∧ NilOr v' ∧ Below w.heap.size w w' := by
  obtain ⟨i0, hi0, hz0, hz1, hz2⟩ := info_parts rowinfo
  obtain ⟨a, c, rfl, -, -, -⟩ := id h
  obtain ⟨-, hc, hm, hx⟩ := h.at
  have Hx := Lib.hid hx
  have Hlens := Lib.hid hlens
  clear h hx hlens
  obtain ⟨n, hn⟩ : ∃ n, n = ls.length := ⟨_, rfl⟩
  rw [← hn] at hc Hx hlen ⊢
  have Hn := Lib.hid hn
  clear hn
  go_enter Try.func11, Try.ntmps11
  go_wp2
  go_loopw [3, 8] (fun o i wr => ∃ (k : Nat) (vs : List Value), k ≤ n ∧ i = .int .i64 k ∧ wr.ownsRow w.heap.size 27 1 o k vs ∧ (∀ j, j < k → ∃ x, vs[j]? = some x ∧ wr.ownsRow w.heap.size 42 2 x (ls.getD j []).length (cellsP (ls.getD j []))) ∧ Below w.heap.size w wr) (fun _ i _ => n - (intOf i).toNat)
  case atStart => exact ⟨0, [], Nat.zero_le _, rfl, World.ownsRow_nil w _ _ _, fun j hj => by omega, Below.refl _ _⟩
  case round =>
    obtain ⟨k, vs, hk, rfl, hown, hrows, hb⟩ := hrel
    have hwr := hb.size
    have Hrows := Lib.hid hrows
    have Hb := Lib.hid hb
    clear hrows
    by_cases hlt : k < n
    · obtain ⟨b, off, rfl, hcell⟩ := Hx.out (by omega)
      obtain ⟨ka, kn, kc, c1, hrow⟩ := hcell k hlt
      have d1 := (hb.cell (block_lt_of_cell c1)).trans c1
      have hitems := Lib.hid (items_any _ _ wr (hrow.below hb) (by have := Hlens.out k (by rw [← Hn.out]; exact hlt); omega))
      clear hcell c1 hrow hb
      go_wp2_with fail
      refine hitems.out.mono ?_
      rintro e w5 ⟨x, rfl, hox, hb5⟩
      have hown5 := own_below hown hb5
      have hw5 := hb5.size
      have hrows5 : Hid (∀ j, j < k → ∃ x, vs[j]? = some x ∧ w5.ownsRow w.heap.size 42 2 x (ls.getD j []).length (cellsP (ls.getD j []))) := fun j hj => by
        obtain ⟨y, h1, h2⟩ := Hrows.out j hj
        exact ⟨y, h1, own_below h2 hb5⟩
      have hvl := hown.1
      have Hox := Lib.hid (own_mono hox hwr)
      have hbb : Below w.heap.size w w5 := Hb.out.trans (hb5.mono hwr)
      obtain ⟨xa, xc, rfl⟩ := own_slice hox
      have Hvl := Lib.hid hvl
      have Hbb := Lib.hid hbb
      have hls : w.heap.size ≤ w5.heap.size := hbb.size
      clear hown hox hb5 hitems hvl hbb
      go_wp2_with (first | (at_builtin; refine wpList_append_own _ rfl (.tmp 12) (.tmp 15) 25 rfl w.heap.size 27 i0 (.slice none 0 0) 1 24 Try.underlying25 hi0 hz0 hz1 hz2 rfl (by decide) _ k _ rfl (hown5.alloc _) ⟨w5.heap.size, 0, none⟩ 1 1 [.slice xa (ls.getD k []).length xc] rfl rfl ?c1 ?c2 ?c3 ?c4 ?c5 ?_))
      case c1 => exact news1 _ _ _ _ rfl
      case c2 => first | rfl | (intro u hu; simp at hu; subst hu; rfl)
      case c3 => unfold maxLen; omega
      case c4 => omega
      case c5 => first | omega | (simp; omega)
      intro v' w1 hown' hgrow _
      have hg : Below w.heap.size w w1 := grow_own (Hbb.out.alloc hls _) (hown5.alloc _) hgrow (Nat.le_refl _) (by simp; omega)
      have hrows1 : ∀ j, j < k + 1 → ∃ x, (vs ++ [.slice xa (ls.getD k []).length xc])[j]? = some x ∧ w1.ownsRow w.heap.size 42 2 x (ls.getD j []).length (cellsP (ls.getD j [])) := by
        intro j hj
        by_cases e : j = k
        · subst e
          have hl : vs.length = j := by have := Hvl.out; omega
          exact ⟨_, by rw [List.getElem?_append_right (by omega), hl]; simp, own_types (Hox.out.alloc _) (hown5.alloc _) (by decide) hgrow⟩
        · obtain ⟨y, h1, h2⟩ := hrows5.out j (by omega)
          have hl := (List.getElem?_eq_some_iff.1 h1).1
          exact ⟨y, by rw [List.getElem?_append_left hl]; exact h1, own_types (h2.alloc _) (hown5.alloc _) (by decide) hgrow⟩
      have Hrows1 := Lib.hid hrows1
      have Hown1 := Lib.hid hown'
      clear hrows1 hown' hown5 hgrow
      go_wp2
      go_roundw
      case rel => exact ⟨k + 1, _, by omega, by go_num, Hown1.out, Hrows1.out, hg⟩
      case measure => simp [intOf]; omega
    · obtain rfl : k = n := by omega
      have h9 := isIts_own (ls := ls) (by rw [Hn.out] at hown; exact hown) (fun j hj => Hrows.out j (by have := Hn.out; omega))
      have hfin := Lib.hid (And.intro h9 (nilOr_own hown))
      clear h9
      clear hown
      go_wp2
      go_ret
      exact ⟨_, rfl, hfin.out.1, hfin.out.2, hb⟩
/-- one item is put into its place -/
def putStep (x : It) (s : List It × Bool) (y : It) : List It × Bool := if !s.2 && decide (x.1 < y.1) then (s.1 ++ [x, y], true) else (s.1 ++ [y], s.2)
def putF (l : List It) (x : It) : List It × Bool := l.foldl (putStep x) ([], false)
def putL (l : List It) (x : It) : List It := if (putF l x).2 then (putF l x).1 else (putF l x).1 ++ [x]
theorem putF_take (l : List It) (x : It) (k : Nat) (h : k < l.length) : putF (l.take (k + 1)) x = putStep x (putF (l.take k) x) (l.getD k (0, 0)) := by
  unfold putF
  rw [List.take_succ_eq_append_getElem h, List.foldl_append, List.getD_eq_getElem?_getD, List.getElem?_eq_getElem h]; rfl
theorem putF_len (x : It) (l : List It) : ∀ s : List It × Bool, (l.foldl (putStep x) s).1.length + (if s.2 then 1 else 0) = s.1.length + l.length + (if (l.foldl (putStep x) s).2 then 1 else 0) := by
  induction l with
  | nil => intro s; obtain ⟨o, d⟩ := s; cases d <;> simp
  | cons y l ih =>
    intro s
    rw [List.foldl_cons]
    have := ih (putStep x s y)
    generalize l.foldl (putStep x) (putStep x s y) = t at *
    unfold putStep at this
    obtain ⟨o, d⟩ := s
    obtain ⟨o', d'⟩ := t
    cases d
    · by_cases hxy : x.1 < y.1
      · cases d' <;> simp [hxy] at this ⊢ <;> omega
      · cases d' <;> simp [hxy] at this ⊢ <;> omega
    · cases d' <;> simp at this ⊢ <;> omega
theorem putF_length (l : List It) (x : It) : (putF l x).1.length = l.length + (if (putF l x).2 then 1 else 0) := by
  have := putF_len x l ([], false)
  simp only [Bool.false_eq_true, if_false, List.length_nil, Nat.add_zero, Nat.zero_add] at this
  exact this
theorem putL_length (l : List It) (x : It) : (putL l x).length = l.length + 1 := by
  have := putF_length l x
  unfold putL
  split <;> simp_all
theorem below_drewN {B : Nat} {a w : World} (h : Below B a w) (n : Nat) : Below B a (w.drewN n) := h.trans ⟨rfl, rfl, rfl, Nat.le_refl _, fun _ _ => rfl⟩
theorem put_any (v : Value) (l : List It) (x y : Int) (w : World) (h : IsIt w v l) (hlen : l.length ≤ 1000000) :
    Calls Try.prog 31 #[v, .agg #[.int .i64 x, .int .i64 y]] w fun e w' => ∃ v', e = .returned v' ∧ w'.ownsRow w.heap.size 44 2 v' (putL l (x, y)).length (cellsP (putL l (x, y))) ∧ Below w.heap.size w w' := by
  obtain ⟨i0, hi0, hz0, hz1, hz2⟩ := info_parts refitinfo
  obtain ⟨a, c, rfl, -, -, -⟩ := id h
  obtain ⟨-, hc, hm, hx⟩ := h.at
  have Hx := Lib.hid hx
  clear h hx
  obtain ⟨n, hn⟩ : ∃ n, n = l.length := ⟨_, rfl⟩
  rw [← hn] at hc Hx hlen ⊢
  have Hn := Lib.hid hn
  clear hn
  have hb0 : Below w.heap.size w (w.alloc (.cells #[.int .i64 x, .int .i64 y] 44)) := (Below.refl _ _).alloc (Nat.le_refl _) _
  have e0 : (w.alloc (.cells #[.int .i64 x, .int .i64 y] 44)).cell? ⟨w.heap.size, 0, none⟩ = some (.int .i64 x) := by rw [World.cell?_alloc_mark]; rfl
  have e1 : (w.alloc (.cells #[.int .i64 x, .int .i64 y] 44)).cell? ⟨w.heap.size, 1, none⟩ = some (.int .i64 y) := by rw [World.cell?_alloc_mark]; rfl
  have E0 := Lib.hid e0
  have E1 := Lib.hid e1
  have Hb0 := Lib.hid hb0
  clear e0 e1 hb0
  go_enter Try.func31, Try.ntmps31
  go_wp2
  generalize hW : w.alloc (.cells #[.int .i64 x, .int .i64 y] 44) = W at *
  have hWs : w.heap.size < W.heap.size := by rw [← hW]; simp
  clear hW
  go_loopw [5, 6, 7] (fun o d i wr => ∃ k : Nat, k ≤ n ∧ i = .int .i64 k ∧ d = .bool (putF (l.take k) (x, y)).2 ∧ wr.ownsRow W.heap.size 44 2 o (putF (l.take k) (x, y)).1.length (cellsP (putF (l.take k) (x, y)).1) ∧ Below W.heap.size W wr) (fun _ _ i _ => n - (intOf i).toNat)
  case atStart => exact ⟨0, Nat.zero_le _, rfl, rfl, World.ownsRow_nil W _ _ _, Below.refl _ _⟩
  case round =>
    obtain ⟨k, hk, rfl, rfl, hown, hb⟩ := hrel
    have hwr := hb.size
    have f0 := (hb.cell (block_lt_of_cell E0.out)).trans E0.out
    have f1 := (hb.cell (block_lt_of_cell E1.out)).trans E1.out
    have hpl := putF_length (l.take k) (x, y)
    have hpn : (putF (l.take k) (x, y)).1.length ≤ k + 1 := by
      rw [hpl, List.length_take]
      split <;> omega
    clear hpl
    by_cases hlt : k < n
    · obtain ⟨b, off, rfl, hcell⟩ := Hx.out (by omega)
      obtain ⟨c1, c2⟩ := hcell k hlt
      have cW1 := (Hb0.out.cell (block_lt_of_cell c1)).trans c1
      have cW2 := (Hb0.out.cell (block_lt_of_cell c2)).trans c2
      have d1 := (hb.cell (block_lt_of_cell cW1)).trans cW1
      have d2 := (hb.cell (block_lt_of_cell cW2)).trans cW2
      have hstep := putF_take l (x, y) k (by rw [← Hn.out]; exact hlt)
      clear hcell c1 c2
      generalize putF (l.take k) (x, y) = P at *
      obtain ⟨o, d⟩ := P
      generalize hq : l.getD k (0, 0) = q at *
      obtain ⟨x2, y2⟩ := q
      have Hstep := Lib.hid hstep
      have Hb := Lib.hid hb
      replace hown : wr.ownsRow W.heap.size 44 2 _ o.length (cellsP o) := hown
      replace hpn : o.length ≤ k + 1 := hpn
      replace d1 : wr.cell? ⟨b, off + k * 2, none⟩ = some (.int .i64 x2) := d1
      replace d2 : wr.cell? ⟨b, off + k * 2 + 1, none⟩ = some (.int .i64 y2) := d2
      replace cW1 : W.cell? ⟨b, off + k * 2, none⟩ = some (.int .i64 x2) := cW1
      replace cW2 : W.cell? ⟨b, off + k * 2 + 1, none⟩ = some (.int .i64 y2) := cW2
      clear hstep hq hb
      cases d with
      | true =>
        have hnx : Hid (putF (l.take (k + 1)) (x, y) = (o ++ [(x2, y2)], true)) := Hstep.out
        go_wp2
        go_quiet (fail)
        have hown2 : (wr.drewN nq).ownsRow W.heap.size 44 2 _ o.length (cellsP o) := hown
        have hb2 : Below W.heap.size W (wr.drewN nq) := below_drewN Hb.out nq
        clear hown
        go_wp2_with (first | (at_builtin; refine wpList_append_own _ rfl (.tmp 30) (.tmp 35) 31 rfl W.heap.size 44 i0 (.agg #[.int .i64 0, .int .i64 0]) 2 16 Try.underlying31 hi0 hz0 hz1 hz2 rfl (by decide) _ o.length _ rfl (hown2.alloc _) ⟨wr.heap.size, 0, none⟩ 1 1 [.int .i64 x2, .int .i64 y2] rfl rfl ?c1 ?c2 ?c3 ?c4 ?c5 ?_))
        case c1 => exact news2 _ _ _ _ _ rfl
        case c2 => exact two_one _ _
        case c3 => unfold maxLen; omega
        case c4 => omega
        case c5 => first | omega | (simp; omega)
        intro v' w1 hown' hgrow _
        have hg : Below W.heap.size W w1 := grow_own (hb2.alloc hwr _) (hown2.alloc _) hgrow (Nat.le_refl _) (by simp; omega)
        have h3 : w1.ownsRow W.heap.size 44 2 v' (o ++ [(x2, y2)]).length (cellsP (o ++ [(x2, y2)])) := by rw [List.length_append, cellsP_append]; exact hown'
        have H3 := Lib.hid h3
        clear hown' h3 hown2 hgrow hb2
        go_wp2
        go_roundw
        case rel => exact ⟨k + 1, by omega, by go_num, by rw [hnx.out], by rw [hnx.out]; exact H3.out, hg⟩
        case measure => simp [intOf]; omega
      | false =>
        by_cases hxy : x < x2
        · have hnx : Hid (putF (l.take (k + 1)) (x, y) = (o ++ [(x, y), (x2, y2)], true)) := by
            show _ = _
            rw [Hstep.out]; simp [putStep, hxy]
          go_wp2
          go_quiet (fail)
          have hown2 : (wr.drewN nq).ownsRow W.heap.size 44 2 _ o.length (cellsP o) := hown
          have hb2 : Below W.heap.size W (wr.drewN nq) := below_drewN Hb.out nq
          clear hown
          go_wp2_with (first | (at_builtin; refine wpList_append_own _ rfl (.tmp 26) (.tmp 28) 31 rfl W.heap.size 44 i0 (.agg #[.int .i64 0, .int .i64 0]) 2 16 Try.underlying31 hi0 hz0 hz1 hz2 rfl (by decide) _ o.length _ rfl (hown2.alloc _) ⟨wr.heap.size, 0, none⟩ 1 1 [.int .i64 x, .int .i64 y] rfl rfl ?c1 ?c2 ?c3 ?c4 ?c5 ?_))
          case c1 => exact news2 _ _ _ _ _ rfl
          case c2 => exact two_one _ _
          case c3 => unfold maxLen; omega
          case c4 => omega
          case c5 => first | omega | (simp; omega)
          intro v' w1 hown' hgrow _
          have hg1 : Below W.heap.size W w1 := grow_own (hb2.alloc hwr _) (hown2.alloc _) hgrow (Nat.le_refl _) (by simp; omega)
          have hw1 := hg1.size
          have g1 := (hg1.cell (block_lt_of_cell cW1)).trans cW1
          have g2 := (hg1.cell (block_lt_of_cell cW2)).trans cW2
          have e1 := (hg1.cell (block_lt_of_cell E0.out)).trans E0.out
          have e2 := (hg1.cell (block_lt_of_cell E1.out)).trans E1.out
          have Hg1 := Lib.hid hg1
          clear hown2 hgrow hb2 hg1 d1 d2 f0 f1
          go_wp2_with (first | (at_builtin; refine wpList_append_own _ rfl (.tmp 30) (.tmp 35) 31 rfl W.heap.size 44 i0 (.agg #[.int .i64 0, .int .i64 0]) 2 16 Try.underlying31 hi0 hz0 hz1 hz2 rfl (by decide) _ (o.length + 1) _ rfl (hown'.alloc _) ⟨w1.heap.size, 0, none⟩ 1 1 [.int .i64 x2, .int .i64 y2] rfl rfl ?c1b ?c2b ?c3b ?c4b ?c5b ?_))
          case c1b => exact news2 _ _ _ _ _ rfl
          case c2b => exact two_one _ _
          case c3b => unfold maxLen; omega
          case c4b => omega
          case c5b => first | omega | (simp; omega)
          intro v2 w2 hown3 hgrow _
          have hg : Below W.heap.size W w2 := grow_own (Hg1.out.alloc hw1 _) (hown'.alloc _) hgrow (Nat.le_refl _) (by simp; omega)
          have h3 : w2.ownsRow W.heap.size 44 2 v2 (o ++ [(x, y), (x2, y2)]).length (cellsP (o ++ [(x, y), (x2, y2)])) := by
            rw [List.length_append, show o ++ [(x, y), (x2, y2)] = (o ++ [(x, y)]) ++ [(x2, y2)] from by simp, cellsP_append, cellsP_append, List.append_assoc]; exact hown3
          have H3 := Lib.hid h3
          clear hown' h3 hown3 hgrow
          go_wp2
          go_roundw
          case rel => exact ⟨k + 1, by omega, by go_num, by rw [hnx.out], by rw [hnx.out]; exact H3.out, hg⟩
          case measure => simp [intOf]; omega
        · have hnx : Hid (putF (l.take (k + 1)) (x, y) = (o ++ [(x2, y2)], false)) := by
            show _ = _
            rw [Hstep.out]; simp [putStep, hxy]
          go_wp2
          go_quiet (fail)
          have hown2 : (wr.drewN nq).ownsRow W.heap.size 44 2 _ o.length (cellsP o) := hown
          have hb2 : Below W.heap.size W (wr.drewN nq) := below_drewN Hb.out nq
          clear hown
          go_wp2_with (first | (at_builtin; refine wpList_append_own _ rfl (.tmp 30) (.tmp 35) 31 rfl W.heap.size 44 i0 (.agg #[.int .i64 0, .int .i64 0]) 2 16 Try.underlying31 hi0 hz0 hz1 hz2 rfl (by decide) _ o.length _ rfl (hown2.alloc _) ⟨wr.heap.size, 0, none⟩ 1 1 [.int .i64 x2, .int .i64 y2] rfl rfl ?c1 ?c2 ?c3 ?c4 ?c5 ?_))
          case c1 => exact news2 _ _ _ _ _ rfl
          case c2 => exact two_one _ _
          case c3 => unfold maxLen; omega
          case c4 => omega
          case c5 => first | omega | (simp; omega)
          intro v' w1 hown' hgrow _
          have hg : Below W.heap.size W w1 := grow_own (hb2.alloc hwr _) (hown2.alloc _) hgrow (Nat.le_refl _) (by simp; omega)
          have h3 : w1.ownsRow W.heap.size 44 2 v' (o ++ [(x2, y2)]).length (cellsP (o ++ [(x2, y2)])) := by rw [List.length_append, cellsP_append]; exact hown'
          have H3 := Lib.hid h3
          clear hown' h3 hown2 hgrow hb2
          go_wp2
          go_roundw
          case rel => exact ⟨k + 1, by omega, by go_num, by rw [hnx.out], by rw [hnx.out]; exact H3.out, hg⟩
          case measure => simp [intOf]; omega
    · obtain rfl : k = n := by omega
      have hW0 : w.heap.size ≤ W.heap.size := by omega
      have htake : l.take k = l := by rw [Hn.out, List.take_length]
      rw [htake] at hown hpn ⊢
      have hput : putL l (x, y) = if (putF l (x, y)).2 then (putF l (x, y)).1 else (putF l (x, y)).1 ++ [(x, y)] := rfl
      generalize putF l (x, y) = P at *
      obtain ⟨o, d⟩ := P
      have Hput := Lib.hid hput
      have Hb := Lib.hid (Hb0.out.trans (hb.mono hW0))
      have HbW := Lib.hid hb
      replace hown : wr.ownsRow W.heap.size 44 2 _ o.length (cellsP o) := hown
      replace hpn : o.length ≤ k + 1 := hpn
      clear hput htake hb
      cases d with
      | true =>
        have hfin : Hid (putL l (x, y) = o) := Hput.out
        have hown2 := Lib.hid (own_mono hown hW0)
        clear hown
        go_wp2
        go_ret
        exact ⟨_, rfl, by rw [hfin.out]; exact hown2.out, Hb.out⟩
      | false =>
        have hfin : Hid (putL l (x, y) = o ++ [(x, y)]) := Hput.out
        go_wp2_with (first | (at_builtin; refine wpList_append_own _ rfl (.tmp 39) (.tmp 41) 31 rfl W.heap.size 44 i0 (.agg #[.int .i64 0, .int .i64 0]) 2 16 Try.underlying31 hi0 hz0 hz1 hz2 rfl (by decide) _ o.length _ rfl (hown.alloc _) ⟨wr.heap.size, 0, none⟩ 1 1 [.int .i64 x, .int .i64 y] rfl rfl ?c1 ?c2 ?c3 ?c4 ?c5 ?_))
        case c2 => first | exact ⟨rfl, rfl⟩ | exact two_one _ _
        case c3 => unfold maxLen; omega
        case c4 => omega
        case c5 => first | omega | (simp; omega)
        intro v' w1 hown' hgrow _
        have hg : Below w.heap.size w w1 := Hb0.out.trans ((grow_own (HbW.out.alloc hwr _) (hown.alloc _) hgrow (Nat.le_refl _) (by simp; omega)).mono hW0)
        have h3 : w1.ownsRow w.heap.size 44 2 v' (o ++ [(x, y)]).length (cellsP (o ++ [(x, y)])) := by rw [List.length_append, cellsP_append]; exact own_mono hown' hW0
        have H3 := Lib.hid h3
        clear hown hown' hgrow h3
        go_wp2
        go_ret
        exact ⟨_, rfl, by rw [hfin.out]; exact H3.out, hg⟩
end Go.Proofs.Ytcgkpbhoiaeolaa.Tithe
