/- slices.Collect over a key's probes; Places. -/
import Derived.Test.YtkdipflmmlnbpaaDoorBloomRef
namespace Go.Proofs.YtkdipflmmlnbpaaDoor.Tithe
open Go.RowKit Go.Sort Go.Shelf
set_option linter.unusedVariables false
attribute [local go_sem] Oper.semAt_some
theorem own_grown {W W' : World} {row : Option Nat} {B base : Nat} {e : TypeId} {n : Nat} {x : Value} {xs : List Value} (h : W.ownsRow base e 1 x n xs) (hg : W.grownBy W' row) (hr : ∀ r, row = some r → B ≤ r ∧ ∃ o : Obj, W.heap[r]? = some o ∧ o.isCells = false) : W'.ownsRow base e 1 x n xs := by
  refine ⟨h.1, ?_⟩
  rcases h.2 with h0 | ⟨g, cap, cur, hv, hb, hh, r⟩
  · exact .inl h0
  · exact .inr ⟨g, cap, cur, hv, hb, (blk_kept hh rfl hg hr).trans hh, r⟩
theorem own_setOther {w : World} {base n c i : Nat} {e : TypeId} {x v : Value} {xs : List Value} (h : w.ownsRow base e 1 x n xs) (hc : c < base) : (w.setCell ⟨c, i, none⟩ v).ownsRow base e 1 x n xs := by
  refine ⟨h.1, ?_⟩
  rcases h.2 with h0 | ⟨g, cap, cur, hv, hb, hh, r⟩
  · exact .inl h0
  · exact .inr ⟨g, cap, cur, hv, hb, (Below.heap_setCell w _ _ g (by show g ≠ c; omega)).trans hh, r⟩
theorem probeDat_below {s : Nat} {kv : Value} {l : List Nat} {n p : Nat} {w W : World} (h : ProbeDat s kv l n p w) (hb : Below w.heap.size w W) : ProbeDat s kv l n p W := by
  obtain ⟨d1, d2, d3, d4, d5⟩ := h
  exact ⟨by rw [hb.cell (block_lt_of_cell d1)]; exact d1, by rw [hb.cell (block_lt_of_cell d2)]; exact d2, by rw [hb.cell (block_lt_of_cell d3)]; exact d3, d4.below hb, d5.below hb⟩
theorem own_form' {w : World} {base n : Nat} {e : TypeId} {v : Value} {xs : List Value} (h : w.ownsRow base e 1 v n xs) (hn : 0 < n) : ∃ g cap, v = .slice (some ⟨g, 0, none⟩) n cap ∧ base ≤ g := by
  rcases h.2 with ⟨_, h0⟩ | ⟨g, cap, cur, hv, hg, _⟩
  · omega
  · exact ⟨g, cap, hv, hg⟩
theorem appendSeq_any (s : Nat) (kv : Value) (l : List Nat) (n p : Nat) (hn : 0 < n) (hn' : n ≤ 16777216) (hp : p ≤ 1000) (w : World) (hd : ProbeDat s kv l n p w) :
    Calls Tryd.prog 36 #[.slice none 0 0, .func (.func 33) #[] #[.pointer (some ⟨s, 0, none⟩), .pointer (some ⟨s + 1 + 1, 0, none⟩), .pointer (some ⟨s + 1, 0, none⟩)]] w
      fun e w' => ∃ x, e = .returned x ∧ w'.ownsRow (w.heap.size + 1) 3 1 x p (cellsI (keyPlaces l n p)) ∧ Below w.heap.size w w' := by
  obtain ⟨i0, hi0, hz0, hz1, hz2⟩ := info_parts intinfo
  have Hd := Lib.hid hd
  clear hd
  refine calls_of_marks Tryd.func36 rfl ?_
  simp only [Tryd.ntmps36, List.size_toArray, List.length_cons, List.length_nil, Nat.reduceAdd, Nat.reduceSub, Array.replicate_succ, Array.replicate_zero, List.push_toArray, List.append_toArray, List.nil_append, List.cons_append]
  go_wp2
  generalize hW : w.alloc (.cells #[.slice none 0 0] 45) = W
  have hWb : Below w.heap.size w W := by rw [← hW]; exact (Below.refl _ _).alloc (Nat.le_refl _) _
  have hWs : W.heap.size = w.heap.size + 1 := by rw [← hW]; simp
  have e0 : W.heap[w.heap.size]? = some (.cells #[.slice none 0 0] 45 (0, 0)) := by rw [← hW]; exact World.alloc_heap_new w _
  clear hW
  have hdat : ProbeDat s kv l n p W := by
    obtain ⟨d1, d2, d3, d4, d5⟩ := Hd.out
    exact ⟨by rw [hWb.cell (block_lt_of_cell d1)]; exact d1, by rw [hWb.cell (block_lt_of_cell d2)]; exact d2, by rw [hWb.cell (block_lt_of_cell d3)]; exact d3, d4.below hWb, d5.below hWb⟩
  refine range_law (gf := 33) (lb := #[.pointer (some ⟨s, 0, none⟩), .pointer (some ⟨s + 1 + 1, 0, none⟩), .pointer (some ⟨s + 1, 0, none⟩)]) rfl (enters_of Tryd.func33 (by kernel_rfl) rfl)
    (probe_iter s kv l n p hn hn' hp) (fun A B h => by subst h; exact KeepsFrom.refl _ _) (probeDat_kept _ _ _ _ _ _) hdat (fun _ => rfl)
    (fun k V => ∃ x, V.heap[w.heap.size]? = some (.cells #[x] 45 (0, 0)) ∧ V.ownsRow (w.heap.size + 1) 3 1 x k (cellsI (places (keyC l) (keyD l) n k)) ∧ Below w.heap.size w V)
    (fun _ _ _ => False)
    ?hI
    (fun _ _ _ _ _ h _ _ => h) (fun k A B _ h e => by subst e; exact h) (fun c k A B _ h e => by subst e; exact h)
    ⟨_, e0, World.ownsRow_nil W _ _ _, hWb⟩
    ?a1 ?assign ?body ?done ?stop
  case hI =>
    rintro k V V' row ⟨x, h1, h2, h3⟩ hg hr
    refine ⟨x, (blk_kept h1 rfl hg hr).trans h1, own_grown h2 hg hr, ?_⟩
    exact ⟨hg.os.trans h3.os, hg.tape.trans h3.tape, hg.output.trans h3.output, Nat.le_trans h3.size hg.size, fun k hk => (hg.block k (Nat.lt_of_lt_of_le hk h3.size) (fun e => by have := (hr k e.symm).1; omega)).trans (h3.block k hk)⟩
  case assign =>
    intro yl k V K hK
    gi_wp2
    exact hK
  case body =>
    rintro yl k V hkp hVs ⟨x, hbox, hown, hb⟩ hd
    have c0 : V.cell? ⟨w.heap.size, 0, none⟩ = some x := by rw [cell_of_blk hbox]; rfl
    have c1 : V.frozen? ⟨w.heap.size, 0, none⟩ = false := frozen_of_blk hbox 0
    obtain ⟨q, hq⟩ : ∃ q, placeAt (keyC l) (keyD l) n k = q := ⟨_, rfl⟩
    have hnext : Hid (cellsI (places (keyC l) (keyD l) n (k + 1)) = cellsI (places (keyC l) (keyD l) n k) ++ [.int .i64 (q : Int)]) := by
      show _ = _
      rw [places_succ, cellsI, List.map_append, ← hq]; rfl
    rw [hq]
    have hxb : ∀ g, x.ownBlock = some g → w.heap.size + 1 ≤ g := by
      intro g hg
      rcases hown.2 with ⟨hx, _⟩ | ⟨g', cap', cur, hx, hgb, _⟩
      · rw [hx] at hg; cases hg
      · rw [hx] at hg; simp [Value.ownBlock] at hg; omega
    have Hxb := Lib.hid hxb
    have Hbox := Lib.hid hbox
    have Hdv := Lib.hid hd
    clear hq hxb hbox hd
    gi_wp2_with (first | (gi_at_builtin; refine wpListIn_append_own _ rfl (.tmp 8) (.tmp 10) 45 rfl (w.heap.size + 1) 3 i0 (.int .i64 0) 1 8 Tryd.underlying45 hi0 hz0 hz1 hz2 rfl (by decide) _ k _ rfl (hown.alloc _) ⟨V.heap.size, 0, none⟩ 1 1 [.int .i64 (q : Int)] rfl rfl ?c1 ?c2 ?c3 ?c4 ?c5 ?_))
    case c1 =>
      intro j u hj
      match j, hj with
      | 0, hj => simp at hj; subst hj; simp [Addr.add]
    case c2 => intro u hu; simp at hu; subst hu; rfl
    case c3 => unfold maxLen; omega
    case c4 => omega
    case c5 => simp; omega
    intro v' w1 hown' hgrow _
    have hbV := hb.size
    have hb1 : Below w.heap.size w w1 := (hb.alloc hbV _).grown hgrow (by simp; omega) (fun g hg => by have := Hxb.out g hg; omega)
    have hbx1 : w1.heap[w.heap.size]? = some (.cells #[x] 45 (0, 0)) := by
      rw [hgrow.block w.heap.size (by simp; omega) (fun e => by have := Hxb.out _ e.symm; omega), Below.heap_alloc V _ _ (by omega)]
      exact Hbox.out
    have c2 : w1.cell? ⟨w.heap.size, 0, none⟩ = some x := by rw [cell_of_blk hbx1]; rfl
    have c3 : w1.frozen? ⟨w.heap.size, 0, none⟩ = false := frozen_of_blk hbx1 0
    have kp : KeepsOthers V w1 := (KeepsOthers.alloc V _).trans (KeepsOthers.of_grownBy hgrow (fun j o hj ho => by
      rcases hown.2 with ⟨hx, _⟩ | ⟨g', cap', cur, hx, hgb, hh, _⟩
      · rw [hx] at hj; cases hj
      · rw [hx] at hj; simp [Value.ownBlock] at hj
        subst hj
        have hlt := (Array.getElem?_eq_some_iff.1 hh).1
        rw [Below.heap_alloc V _ _ hlt, hh] at ho
        cases ho; rfl))
    have Hb1 := Lib.hid hb1
    have Hbx1 := Lib.hid hbx1
    have Hkp := Lib.hid kp
    rw [← hnext.out] at hown'
    clear hb1 hbx1 kp hgrow hown c0 c1
    obtain ⟨g2, cap2, rfl, _⟩ := own_form' hown' (Nat.succ_pos k)
    have Hown' := Lib.hid hown'
    clear hown'
    gi_wp2
    have hbs : Go.RowKit.Below w.heap.size w (w1.setCell ⟨w.heap.size, 0, none⟩ (.slice (some ⟨g2, 0, none⟩) (k + 1) cap2)) := Hb1.out.setCell (Nat.le_refl _) _
    refine ⟨(Hkp.out.trans (KeepsOthers.setCell _ _ _)).from _, probeDat_below Hd.out hbs, _, ?_, own_setOther Hown'.out (Nat.lt_succ_self _), hbs⟩
    rw [blk_setCell Hbx1.out]; rfl
  case done =>
    rintro D V hD hVs ⟨x, hbox, hown, hb⟩ hK
    have hr : ∀ r, some D = some r → W.heap.size ≤ r ∧ ∃ o : Obj, V.heap[r]? = some o ∧ o.isCells = false := fun r e => by cases e; exact ⟨hD, _, hK, rfl⟩
    have c0 : V.cell? ⟨w.heap.size, 0, none⟩ = some x := by rw [cell_of_blk hbox]; rfl
    have hK0 := Lib.hid hK
    have hr' := Lib.hid hr
    clear hr
    go_wp2
    have hg := grownBy_putObj' V D (.deferred none)
    have hbl : Go.RowKit.Below w.heap.size w (V.putObj D (.deferred none)) := hb.trans (grown_below hg (by omega) hb.size)
    exact leave_tmp rfl hK0.out ⟨x, rfl, own_grown hown hg hr'.out, hbl⟩
  case stop =>
    rintro D c k V _ _ _ h _
    exact h.elim
theorem collect_any (s : Nat) (kv : Value) (l : List Nat) (n p : Nat) (hn : 0 < n) (hn' : n ≤ 16777216) (hp : p ≤ 1000) (w : World) (hd : ProbeDat s kv l n p w) :
    Calls Tryd.prog 29 #[.func (.func 33) #[] #[.pointer (some ⟨s, 0, none⟩), .pointer (some ⟨s + 1 + 1, 0, none⟩), .pointer (some ⟨s + 1, 0, none⟩)]] w
      fun e w' => ∃ x, e = .returned x ∧ w'.ownsRow (w.heap.size + 1) 3 1 x p (cellsI (keyPlaces l n p)) ∧ Below w.heap.size w w' := by
  have HA := Lib.hid (appendSeq_any s kv l n p hn hn' hp w hd)
  clear hd
  go_enter Tryd.func29, Tryd.ntmps29
  go_wp2_with fail
  refine HA.out.mono ?_
  rintro e w' ⟨x, rfl, ho, hb⟩
  go_wp2
  go_ret
  exact ⟨x, rfl, ho, hb⟩
theorem places_yes (ka : Option Addr) (kn kc : Nat) (l : List Nat) (n p : Nat) (h1 : 1 ≤ n) (h2 : n ≤ 16777216) (h3 : 1 ≤ p) (h4 : p ≤ 30) (w : World) (hk : IsBytes w (.slice ka kn kc) l) (ht : TabOk w) :
    Calls Tryd.prog 24 #[.slice ka kn kc, .int .i64 n, .int .i64 p] w
      fun e w' => ∃ x, e = .returned x ∧ w'.ownsRow w.heap.size 3 1 x p (cellsI (keyPlaces l n p)) ∧ Below w.heap.size w w' := by
  have Hk := Lib.hid hk
  have Ht := Lib.hid ht
  clear hk ht
  go_enter Tryd.func24, Tryd.ntmps24
  go_wp2_with fail
  refine (probe_facts ka kn kc n p w w.heap.size rfl).mono ?_
  rintro e W2 ⟨rfl, hb2, hs2, g0, g1, g2⟩
  have hdat : ProbeDat w.heap.size (.slice ka kn kc) l n p W2 := ⟨g0, g1, g2, Hk.out.below hb2, Ht.out.below hb2⟩
  have hc := collect_any w.heap.size (.slice ka kn kc) l n p (by omega) (by omega) (by omega) W2 hdat
  have HC := Lib.hid hc
  clear hc hdat g0 g1 g2
  go_wp2_with fail
  refine HC.out.mono ?_
  rintro e w' ⟨x, rfl, ho, hb⟩
  go_wp2
  go_ret
  refine ⟨x, rfl, ?_, hb2.trans (hb.mono hb2.size)⟩
  refine ⟨ho.1, ?_⟩
  rcases ho.2 with h0 | ⟨g, cap, cur, hv, hbs, r⟩
  · exact .inl h0
  · exact .inr ⟨g, cap, cur, hv, by have := hb2.size; omega, r⟩
theorem places_no (v : Value) (n p : Int) (w : World) (h : n < 1 ∨ 16777216 < n ∨ p < 1 ∨ 30 < p) :
    Calls Tryd.prog 24 #[v, .int .i64 n, .int .i64 p] w fun e w' => e = .returned (.slice none 0 0) ∧ w = w' := by
  have key : ∀ (q : decide (n < 1) = true ∨ (decide (n < 1) = false ∧ (decide (16777216 < n) = true ∨ (decide (16777216 < n) = false ∧ (decide (p < 1) = true ∨ (decide (p < 1) = false ∧ decide (30 < p) = true)))))), Calls Tryd.prog 24 #[v, .int .i64 n, .int .i64 p] w fun e w' => e = .returned (.slice none 0 0) ∧ w = w' := by
    intro q
    clear h
    rcases q with q | ⟨q, q' | ⟨q', q2 | ⟨q2, q3⟩⟩⟩
    all_goals
      go_enter Tryd.func24, Tryd.ntmps24
      go_wp2
      go_ret
      exact ⟨rfl, rfl⟩
  apply key
  by_cases a1 : n < 1
  · exact .inl (decide_eq_true a1)
  · refine .inr ⟨decide_eq_false a1, ?_⟩
    by_cases a2 : 16777216 < n
    · exact .inl (decide_eq_true a2)
    · refine .inr ⟨decide_eq_false a2, ?_⟩
      by_cases a3 : p < 1
      · exact .inl (decide_eq_true a3)
      · exact .inr ⟨decide_eq_false a3, decide_eq_true (by omega)⟩
end Go.Proofs.YtkdipflmmlnbpaaDoor.Tithe
