/- Clone, New, Valid, Item, all. -/
import Derived.Test.YtcgkpbhoiaeolaaMerPlain
namespace Go.Proofs.Ytcgkpbhoiaeolaa.Tithe
open Go.RowKit Go.Sort Go.Shelf
set_option linter.unusedVariables false
theorem its_vals {w : World} {ad : Addr} {n c : Nat} {ls : List (List It)} (h : IsIts w (.slice (some ad) n c) ls) : ∃ vs : List Value, vs.length = n ∧ (∀ u ∈ vs, u.oneCell' = true) ∧ (∀ j u, vs[j]? = some u → w.cell? (ad.add j) = some u) ∧ ∀ j, j < n → ∃ ka kn kc, vs[j]? = some (.slice ka kn kc) ∧ IsIt w (.slice ka kn kc) (ls.getD j []) := by
  obtain ⟨-, -, -, hx⟩ := h.at
  have main : ∀ m, m ≤ n → ∃ vs : List Value, vs.length = m ∧ (∀ u ∈ vs, u.oneCell' = true) ∧ (∀ j u, vs[j]? = some u → w.cell? (ad.add j) = some u) ∧ ∀ j, j < m → ∃ ka kn kc, vs[j]? = some (.slice ka kn kc) ∧ IsIt w (.slice ka kn kc) (ls.getD j []) := by
    intro m
    induction m with
    | zero => intro _; exact ⟨[], rfl, by simp, by simp, by omega⟩
    | succ m ih =>
      intro hm
      obtain ⟨vs, h1, h2, h3, h4⟩ := ih (by omega)
      obtain ⟨b, off, ha, hc⟩ := hx (by omega)
      injection ha with ha
      subst ha
      obtain ⟨ka, kn, kc, k1, k2⟩ := hc m (by omega)
      refine ⟨vs ++ [.slice ka kn kc], by simp [h1], ?_, ?_, ?_⟩
      · intro u hu
        rcases List.mem_append.1 hu with q | q
        · exact h2 u q
        · rw [List.mem_singleton.1 q]; rfl
      · intro j u hj
        rcases Nat.lt_or_ge j vs.length with q | q
        · rw [List.getElem?_append_left q] at hj; exact h3 j u hj
        · rw [List.getElem?_append_right q] at hj
          have : j - vs.length = 0 := by
            rcases Nat.eq_zero_or_pos (j - vs.length) with z | z
            · exact z
            · rw [List.getElem?_eq_none (by simp; omega)] at hj; cases hj
          rw [this] at hj
          injection hj with hj
          subst hj
          rw [plain_add, show j = m from by omega]
          exact k1
      · intro j hj
        by_cases q : j = m
        · subst q
          exact ⟨ka, kn, kc, by rw [List.getElem?_append_right (by omega), h1]; simp, k2⟩
        · obtain ⟨a1, a2, a3, g1, g2⟩ := h4 j (by omega)
          exact ⟨a1, a2, a3, by rw [List.getElem?_append_left (by omega)]; exact g1, g2⟩
  exact main n (Nat.le_refl _)
theorem isIts_rows {w : World} {base : Nat} {e : TypeId} {v : Value} {ls : List (List It)} {vs : List Value} (h : w.ownsRow base e 1 v ls.length vs) (hr : ∀ j, j < ls.length → ∃ ka kn kc, vs[j]? = some (.slice ka kn kc) ∧ IsIt w (.slice ka kn kc) (ls.getD j [])) : IsIts w v ls := by
  rcases Nat.eq_zero_or_pos ls.length with z | z
  · obtain rfl : ls = [] := List.eq_nil_of_length_eq_zero z
    rcases h.2 with ⟨rfl, _⟩ | ⟨g, cap, cur, rfl, _, _, _, hm, _⟩
    · exact ⟨_, _, rfl, by simp, by simp, fun h => absurd rfl h⟩
    · exact ⟨_, _, rfl, by simp, hm, fun h => absurd rfl h⟩
  · obtain ⟨g, cap, rfl, hb, hlt⟩ := h.form z
    have hc := h.cells (g := g) rfl
    obtain ⟨_, h2⟩ := h
    have hcm : ls.length ≤ cap ∧ cap ≤ maxLen := by
      rcases h2 with ⟨h, _⟩ | ⟨g', cap', cur, h, _, _, hn, hm, _⟩
      · cases h
      · injection h with _ _ h; subst h; exact ⟨hn, hm⟩
    refine ⟨_, _, rfl, hcm.1, hcm.2, fun _ => ⟨_, _, rfl, fun i hi => ?_⟩⟩
    obtain ⟨ka, kn, kc, hx, ho⟩ := hr i hi
    have c1 := hc _ _ hx
    rw [plain_add] at c1
    exact ⟨_, _, _, c1, ho⟩
theorem ownsRow_empty (w : World) (t : TypeId) (size : Nat) : (w.alloc (.cells #[] t)).ownsRow w.heap.size t size (.slice (some ⟨w.heap.size, 0, none⟩) 0 0) 0 [] := by
  refine ⟨by simp, .inr ⟨w.heap.size, 0, #[], rfl, Nat.le_refl _, ?_, Nat.le_refl _, by decide, by simp, by simp⟩⟩
  show (w.heap.push _)[w.heap.size]? = _
  simp
theorem clone_any (rv : Value) (ls : List (List It)) (w : World) (h : IsIts w rv ls) (hf : NilOr rv) (hlen : ls.length ≤ 1000) :
    Calls Try.prog 35 #[rv] w fun e w' => ∃ v', e = .returned v' ∧ IsIts w' v' ls ∧ Below w.heap.size w w' := by
  obtain ⟨i0, hi0, hz0, hz1, hz2⟩ := info_parts rowinfo
  rcases hf with rfl | ⟨ad, n, c, rfl⟩
  · have hs : ∀ w : World, (binOp .eql 25 (.slice none 0 0) (.slice none 0 0)).run Try.prog w = .ok (.bool true) w := fun _ => rfl
    have H := Lib.hid h
    clear h
    go_enter Try.func35, Try.ntmps35
    go_wp2
    go_ret
    exact ⟨_, rfl, H.out, Below.refl _ _⟩
  · have hs : ∀ w : World, (binOp .eql 25 (.slice (some ad) n c) (.slice none 0 0)).run Try.prog w = .ok (.bool false) w := fun _ => rfl
    obtain ⟨vs, h1, h2, h3, h4⟩ := its_vals h
    obtain ⟨hn, -, -, -⟩ := h.at
    have H3 : Hid (∀ (o : Obj) j u, vs[j]? = some u → (w.alloc o).cell? (ad.add j) = some u) := fun o j u hj => by
      have := h3 j u hj
      rw [World.cell?_alloc_lt w _ _ (block_lt_of_cell this)]; exact this
    have H4 := Lib.hid h4
    have H1 := Lib.hid h1
    have H2 := Lib.hid h2
    have Hn := Lib.hid hn
    have hn1 : n ≤ 1000 := by omega
    clear h h1 h2 h3 h4 hn
    go_enter Try.func35, Try.ntmps35
    go_wp2_with (first | (at_builtin; refine wpList_append_own _ rfl (.tmp 5) (.tmp 6) 25 rfl w.heap.size 27 i0 (.slice none 0 0) 1 24 Try.underlying25 hi0 hz0 hz1 hz2 rfl (by decide) (.slice (some ⟨w.heap.size, 0, none⟩) 0 0) 0 [] rfl (ownsRow_empty w _ _) ad n c vs rfl ?c1 ?c2 ?c3 ?c4 ?c5 ?c6 ?_))
    case c1 => rw [H1.out, Nat.mul_one]
    case c2 => exact H3.out _
    case c3 => exact H2.out
    case c4 => unfold maxLen; omega
    case c5 => omega
    case c6 => first | omega | (simp; omega) | simp
    intro v' w1 hown' hgrow _
    have hg : Below w.heap.size w w1 := grow_own ((Below.refl _ _).alloc (Nat.le_refl _) _) (ownsRow_empty w 27 1) hgrow (Nat.le_refl _) (by simp)
    have hfin : IsIts w1 v' ls := by
      rw [Hn.out] at hown'
      refine isIts_rows hown' fun j hj => ?_
      obtain ⟨ka, kn, kc, g1, g2⟩ := H4.out j (by rw [Hn.out]; exact hj)
      exact ⟨ka, kn, kc, g1, g2.below hg⟩
    have Hfin := Lib.hid hfin
    clear hfin hown' hgrow
    go_wp2
    go_ret
    exact ⟨_, rfl, Hfin.out, hg⟩
theorem okRuns_of {ls : List (List It)} (h : runsB ls = true) (hl : ∀ i, i < ls.length → (ls.getD i []).length ≤ 1000000) : OkRuns ls := by
  intro r hr
  obtain ⟨i, hi, rfl⟩ := List.mem_iff_getElem.1 hr
  have := hl i hi
  rw [List.getD_eq_getElem?_getD, List.getElem?_eq_getElem hi] at this
  unfold runsB at h
  rw [List.all_eq_true] at h
  exact ⟨this, h _ hr⟩
theorem new_any (rv : Value) (ls : List (List It)) (w : World) (h : IsIts w rv ls) (hf : NilOr rv) (hlen : ls.length ≤ 1000) :
    Calls Try.prog 22 #[rv] w fun e w' => (runsB ls = false ∧ e = .returned (.tuple #[.pointer none, .int .i64 31]) ∧ Below w.heap.size w w') ∨
      (runsB ls = true ∧ ∃ (w1 : World) (cb : Nat) (cv : Value), e = .returned (.tuple #[.pointer (some ⟨cb, 0, none⟩), .int .i64 0]) ∧ IsCur w1 w' cb cv ls (0, 0) false ∧ Below w.heap.size w w1 ∧ Below w.heap.size w w') := by
  have H := Lib.hid h
  have Hf := Lib.hid hf
  obtain ⟨a, c, rfl, -, -, -⟩ := id h
  obtain ⟨-, hc, hm, hx⟩ := h.at
  have Hx := Lib.hid hx
  clear h hx hf
  obtain ⟨n, hn⟩ : ∃ n, n = ls.length := ⟨_, rfl⟩
  rw [← hn] at hc Hx hlen H Hf ⊢
  have Hn := Lib.hid hn
  clear hn
  generalize hB : runsB ls = B at *
  have HB := Lib.hid hB
  clear hB
  go_enter Try.func22, Try.ntmps22
  go_wp2
  go_loopw [9] (fun i wr => ∃ k : Nat, k ≤ n ∧ i = .int .i64 k ∧ (∀ i, i < k → runB (ls.getD i []) = true) ∧ ∃ d, wr = w.drewN d) (fun i _ => n - (intOf i).toNat)
  case atStart => exact ⟨0, Nat.zero_le _, rfl, fun i h0 => by omega, 0, rfl⟩
  case round =>
    obtain ⟨k, hk, rfl, hall, d, rfl⟩ := hrel
    have Hall := Lib.hid hall
    clear hall
    by_cases hlt : k < n
    · obtain ⟨b, off, rfl, hcell⟩ := Hx.out (by omega)
      obtain ⟨ka, kn, kc, c1, hrow⟩ := hcell k hlt
      have Hno := Lib.hid (@runsB_false ls k (by rw [← Hn.out]; exact hlt))
      have hchk := check_any _ _ (w.drewN d) (hrow.below ⟨rfl, rfl, rfl, Nat.le_refl _, fun _ _ => rfl⟩)
      have Hnext : Hid (runB (ls.getD k []) = true → ∀ i, i < k + 1 → runB (ls.getD i []) = true) := by
        intro hh i h1
        by_cases e : i = k
        · subst e; exact hh
        · exact Hall.out i (by omega)
      clear hcell hrow
      generalize ls.getD k [] = r at *
      cases hr : runB r with
      | false =>
        rw [chkE_no hr] at hchk
        have Hchk := Lib.hid hchk
        have hf := Lib.hid (HB.out.symm.trans (Hno.out hr))
        clear hchk hr
        go_wp2_with fail
        refine Hchk.out.mono ?_
        rintro e w' ⟨rfl, nq, rfl⟩
        go_wp2
        go_ret2
        exact .inl ⟨hf.out, rfl, rfl, rfl, rfl, Nat.le_refl _, fun _ _ => rfl⟩
      | true =>
        rw [chkE_yes hr] at hchk
        have Hchk := Lib.hid hchk
        have hn2 := Lib.hid (Hnext.out hr)
        clear hchk hr
        go_wp2_with fail
        refine Hchk.out.mono ?_
        rintro e w' ⟨rfl, nq, rfl⟩
        go_wp2
        go_roundw
        case rel => exact ⟨k + 1, by omega, by go_num, hn2.out, _, rfl⟩
        case measure => simp [intOf]; omega
    · obtain rfl : k = n := by omega
      have hbd : Below w.heap.size w (w.drewN d) := ⟨rfl, rfl, rfl, Nat.le_refl _, fun _ _ => rfl⟩
      have ht := Lib.hid (HB.out.symm.trans (runsB_true (ls := ls) fun i h0 => Hall.out i (by have := Hn.out; omega)))
      have Hcl := Lib.hid (clone_any _ ls (w.drewN d) (H.out.below hbd) Hf.out (by have := Hn.out; omega))
      have Hbd := Lib.hid hbd
      clear hbd
      go_wp2_with fail
      refine Hcl.out.mono ?_
      rintro e w1 ⟨cv, rfl, hits, hb1⟩
      obtain ⟨ca, cc, rfl, -, -, -⟩ := id hits
      have Hits := Lib.hid hits
      have hb1' : Below w.heap.size w w1 := Hbd.out.trans hb1
      have Hb1 := Lib.hid hb1'
      have hs1 := hb1'.size
      clear hits hb1 hb1' Hcl
      go_wp2
      go_ret2
      exact .inr ⟨ht.out, w1, w1.heap.size, .slice ca ls.length cc, rfl, ⟨Hits.out, (Below.refl _ _).alloc (Nat.le_refl _) _, Nat.le_refl _, World.alloc_heap_new w1 _⟩, Hb1.out, Hb1.out.alloc hs1 _⟩
end Go.Proofs.Ytcgkpbhoiaeolaa.Tithe
