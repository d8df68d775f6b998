/- Merge. -/
import Derived.Test.YtcgkpbhoiaeolaaMerIter
namespace Go.Proofs.Ytcgkpbhoiaeolaa.Tithe
open Go.RowKit Go.Sort Go.Shelf
set_option linter.unusedVariables false
attribute [local go_sem] Oper.semAt_some
theorem own_kept2 {W W' : World} {row : Option Nat} {B base : Nat} {e : TypeId} {size n : Nat} {x : Value} {xs : List Value} (h : W.ownsRow base e size x n xs) (hg : W.grownBy W' row) (hr : ∀ r, row = some r → B ≤ r ∧ ∃ o : Obj, W.heap[r]? = some o ∧ o.isCells = false) : W'.ownsRow base e size x n xs := by
  refine ⟨h.1, ?_⟩
  rcases h.2 with h0 | ⟨g, cap, cur, hv, hb, hh, r⟩
  · exact .inl h0
  · exact .inr ⟨g, cap, cur, hv, hb, (blk_kept hh rfl hg hr).trans hh, r⟩
theorem own_far {W W' : World} {row : Option Nat} {base : Nat} {e : TypeId} {size n : Nat} {x : Value} {xs : List Value} (h : W.ownsRow base e size x n xs) (hg : W.grownBy W' row) (hr : ∀ r, row = some r → r < base) : W'.ownsRow base e size x n xs := by
  refine ⟨h.1, ?_⟩
  rcases h.2 with h0 | ⟨g, cap, cur, hv, hb, hh, r⟩
  · exact .inl h0
  · refine .inr ⟨g, cap, cur, hv, hb, (hg.block g (Array.getElem?_eq_some_iff.1 hh).1 (fun e => ?_)).trans hh, r⟩
    have := hr g e.symm
    omega
/-- what a round of the merge leaves -/
def MerI (w : World) (ob base : Nat) (M : List It) (k : Nat) (V : World) : Prop :=
  ∃ x, V.heap[ob]? = some (.cells #[x] 27 (0, 0)) ∧ V.ownsRow base 42 2 x k (cellsP (M.take k)) ∧ Below w.heap.size w V
theorem merI_own {w : World} {ob base B : Nat} {M : List It} (hB : w.heap.size ≤ B) : OwnFrom B (MerI w ob base M) := by
  rintro k V V' row ⟨x, h1, h2, h3⟩ hg hr
  exact ⟨x, (blk_kept h1 rfl hg hr).trans h1, own_kept2 h2 hg hr, h3.grown hg h3.size (fun k e => Nat.le_trans hB (hr k e).1)⟩
theorem merI_it {w : World} {ob base cb : Nat} {M : List It} {k : Nat} {A B : World} (h1 : ob ≠ cb) (h2 : cb < base) (h3 : w.heap.size ≤ cb) (h : MerI w ob base M k A) (hit : CurIt cb A B) : MerI w ob base M k B := by
  obtain ⟨x, a1, a2, a3⟩ := h
  obtain ⟨hg, _⟩ := hit
  refine ⟨x, (hg.block ob (Array.getElem?_eq_some_iff.1 a1).1 (fun e => h1 (Option.some.inj e))).trans a1, own_far a2 hg (fun r e => by cases e; exact h2), a3.trans (grown_below hg h3 a3.size)⟩
theorem curIt_keeps {B cb : Nat} {X Y : World} (h : CurIt cb X Y) : KeepsFrom B X Y := by
  obtain ⟨hg, cs, t, fr, hc⟩ := h
  refine ⟨hg.size, fun k o _ hk ho => (hg.block k (Array.getElem?_eq_some_iff.1 hk).1 (fun e => ?_)).trans hk⟩
  cases e
  rw [hc] at hk
  cases hk
  cases ho
def MerA (a : Option Addr) (n c cb ob xb : Nat) (q : It) : Act :=
  { tmps := #[.slice a n c, undef, .slice none 0 0, .int .i64 0, .pointer (some ⟨cb, 0, none⟩), .int .i64 0, .pointer (some ⟨ob, 0, none⟩), .pointer (some ⟨xb, 0, none⟩), .tuple #[.pointer (some ⟨cb, 0, none⟩), .int .i64 0], .slice a n c, .tuple #[.pointer (some ⟨cb, 0, none⟩), .int .i64 0], .pointer (some ⟨cb, 0, none⟩), .int .i64 0, .int .i64 0, .bool false, undef, .pointer (some ⟨cb, 0, none⟩), .func (.func 44) #[] #[.pointer (some ⟨ob + 1, 0, none⟩)], .agg #[.int .i64 q.1, .int .i64 q.2], undef, undef, undef, undef, undef], defers := [] }
theorem merge_no (rv : Value) (ls : List (List It)) (w : World) (h : IsIts w rv ls) (hf : NilOr rv) (hlen : ls.length ≤ 1000) (hr : runsB ls = false) :
    Calls Try.prog 12 #[rv] w fun e w' => e = .returned (.tuple #[.slice none 0 0, .int .i64 31]) ∧ Below w.heap.size w w' := by
  have HN := Lib.hid (new_any rv ls w h hf hlen)
  obtain ⟨a, c, rfl, -, -, -⟩ := id h
  have Hr := Lib.hid hr
  clear h hf hlen hr
  go_enter Try.func12, Try.ntmps12
  go_wp2_with fail
  refine HN.out.mono ?_
  rintro e w5 (⟨-, rfl, hb⟩ | ⟨h, -⟩)
  · have Hb := Lib.hid hb
    clear hb
    go_wp2
    go_ret2
    exact ⟨rfl, Hb.out⟩
  · rw [Hr.out] at h; cases h
theorem merge_yes (rv : Value) (ls : List (List It)) (w : World) (h : IsIts w rv ls) (hf : NilOr rv) (hlen : ls.length ≤ 1000) (hr : runsB ls = true) (hl : ∀ i, i < ls.length → (ls.getD i []).length ≤ 1000000) (hM : (oneL ls).length ≤ 1000000) :
    Calls Try.prog 12 #[rv] w fun e w' => ∃ v', e = .returned (.tuple #[v', .int .i64 0]) ∧ w'.ownsRow w.heap.size 42 2 v' (oneL ls).length (cellsP (oneL ls)) ∧ Below w.heap.size w w' := by
  obtain ⟨i0, hi0, hz0, hz1, hz2⟩ := info_parts itinfo
  have HN := Lib.hid (new_any rv ls w h hf hlen)
  have Hok := Lib.hid (okRuns_of hr hl)
  obtain ⟨a, c, rfl, -, -, -⟩ := id h
  have Hr := Lib.hid hr
  clear h hf hlen hr hl
  refine calls_of_marks Try.func12 rfl ?_
  simp only [Try.ntmps12, List.size_toArray, List.length_cons, List.length_nil, Nat.reduceAdd, Nat.reduceSub, Array.replicate_succ, Array.replicate_zero, List.push_toArray, List.append_toArray, List.nil_append, List.cons_append]
  go_wp2_with fail
  refine HN.out.mono ?_
  rintro e w2 (⟨h, -⟩ | ⟨-, w1, cb, cv, rfl, hcur, hb1, hb2⟩)
  · rw [Hr.out] at h; cases h
  have Hcur := Lib.hid hcur
  have hs1 := hb1.size
  have hs2 := hb2.size
  have hold := hcur.old
  have hcl := (Array.getElem?_eq_some_iff.1 hcur.blk).1
  have Hb2 := Lib.hid hb2
  clear hcur hb1 hb2 HN
  go_wp2_with fail
  refine (allc_any _ cb).mono ?_
  rintro e w3 ⟨rfl, rfl⟩
  go_wp2_with fail
  generalize hW : (w2.alloc (.cells #[.slice none 0 0] 27)).alloc (.cells #[.pointer (some ⟨cb, 0, none⟩)] 46) = W
  have hWb : Below w2.heap.size w2 W := by rw [← hW]; exact ((Below.refl _ _).alloc (Nat.le_refl _) _).alloc (by simp) _
  have hWs : W.heap.size = w2.heap.size + 2 := by rw [← hW]; simp
  have e0 : W.heap[w2.heap.size]? = some (.cells #[.slice none 0 0] 27 (0, 0)) := by rw [← hW]; exact (Below.heap_alloc _ _ _ (by simp)).trans (World.alloc_heap_new w2 _)
  have e1 : W.cell? ⟨w2.heap.size + 1, 0, none⟩ = some (.pointer (some ⟨cb, 0, none⟩)) := by
    rw [← hW]
    have := World.cell?_alloc_mark (w2.alloc (.cells #[.slice none 0 0] 27)) #[.pointer (some ⟨cb, 0, none⟩)] 46 (0, 0) 0
    rw [World.size_alloc] at this
    rw [this]; rfl
  clear hW
  have hbW : Below w.heap.size w W := Hb2.out.trans (hWb.mono hs2)
  have hcW : IsCur w1 W cb cv ls (0, 0) false := ⟨Hcur.out.its, Hcur.out.below.trans (hWb.mono Hcur.out.below.size), Hcur.out.old, (hWb.block cb hcl).trans Hcur.out.blk⟩
  have hw12 := Hcur.out.below.size
  have HWs := Lib.hid hWs
  have hWle : w2.heap.size ≤ W.heap.size := by omega
  refine range_lawA (gf := 44) (lb := #[.pointer (some ⟨w2.heap.size + 1, 0, none⟩)]) rfl (enters_of Try.func44 (by kernel_rfl) rfl)
    (all_iter (w2.heap.size + 1) cb w1 cv ls Hok.out (by omega)) (fun A B h => curIt_keeps h) (iterDat_own (by omega)) ⟨e1, _, _, hcW⟩ (fun _ => rfl)
    (MerI w w2.heap.size W.heap.size (oneL ls))
    (fun _ _ _ => False)
    (merI_own (by omega))
    (fun _ _ _ _ _ h _ _ => h) (fun k A B _ h e => merI_it (by omega) (by omega) (by omega) h e) (fun c k A B _ h e => h.elim)
    ⟨_, e0, World.ownsRow_nil W _ _ _, hbW⟩
    (fun k a2 V => ∃ xb, W.heap.size ≤ xb ∧ a2 = MerA a ls.length c cb w2.heap.size xb ((oneL ls).getD k (0, 0)) ∧ V.heap[xb]? = some (.cells #[.int .i64 ((oneL ls).getD k (0, 0)).1, .int .i64 ((oneL ls).getD k (0, 0)).2] 42 (0, 0)) ∧ MerI w w2.heap.size W.heap.size (oneL ls) k V)
    ?hI' ?assign ?body ?done ?stop
  case hI' =>
    rintro a2 k V V' row ⟨xb, h1, h2, h3, h4⟩ hg hr
    exact ⟨xb, h1, h2, (blk_kept h3 rfl hg hr).trans h3, merI_own (by omega) k V V' row h4 hg hr⟩
  case assign =>
    intro yl k V K hkN hV hI hD hK
    have hk1 : K (MerA a ls.length c cb w2.heap.size V.heap.size ((oneL ls).getD k (0, 0))) (V.alloc (.cells #[.int .i64 ((oneL ls).getD k (0, 0)).1, .int .i64 ((oneL ls).getD k (0, 0)).2] 42)) :=
      hK _ _ ((KeepsOthers.alloc V _).from _) ⟨_, hV, rfl, World.alloc_heap_new V _, merI_own (B := w.heap.size) (Nat.le_refl _) k V _ none hI (World.grownBy_alloc V _ none) (fun r e => by cases e)⟩ (iterDat_own (B := w1.heap.size) (Nat.le_refl _) (k + 1) V _ none hD (World.grownBy_alloc V _ none) (fun r e => by cases e))
    have Hk1 := Lib.hid hk1
    clear hK hk1 hI hD
    generalize (oneL ls).getD k (0, 0) = q at *
    obtain ⟨qx, qy⟩ := q
    gi_wp2
    exact Hk1.out
  case body =>
    rintro yl k a2 V hkp hVs ⟨xb, hxb1, rfl, hxblk, x, hbox, hown, hb⟩ hd
    have c0 : V.cell? ⟨w2.heap.size, 0, none⟩ = some x := by rw [cell_of_blk hbox]; rfl
    have c1 : V.frozen? ⟨w2.heap.size, 0, none⟩ = false := frozen_of_blk hbox 0
    have hnext := cellsP_take hkp
    have hd' : V.cell? ⟨w2.heap.size + 1, 0, none⟩ = some (.pointer (some ⟨cb, 0, none⟩)) ∧ IsCur w1 V cb cv ls ((oneL ls).getD k (0, 0)) true := hd
    have Hd := Lib.hid hd'
    generalize hq : (oneL ls).getD k (0, 0) = q at *
    obtain ⟨qx, qy⟩ := q
    have Hq := Lib.hid hq
    clear hq
    have x0 : V.cell? ⟨xb, 0, none⟩ = some (.int .i64 qx) := by rw [cell_of_blk hxblk]; rfl
    have x1 : V.cell? ⟨xb, 1, none⟩ = some (.int .i64 qy) := by rw [cell_of_blk hxblk]; rfl
    have hxb := hown.lt
    have Hxb := Lib.hid hxb
    have Hbox := Lib.hid hbox
    have Hnext := Lib.hid hnext
    have hW2 := HWs.out
    have hW3 : w2.heap.size + 1 < W.heap.size := by omega
    have hW4 : W.heap.size ≤ w2.heap.size + 2 := by omega
    clear hxb hbox hd hd' hnext hxblk hWs hW2
    unfold MerA
    gi_wp2_with (first | (gi_at_builtin; refine wpListIn_append_own _ rfl (.tmp 19) (.tmp 21) 27 rfl W.heap.size 42 i0 (.agg #[.int .i64 0, .int .i64 0]) 2 16 Try.underlying27 hi0 hz0 hz1 hz2 rfl (by decide) _ k _ rfl (hown.alloc _) ⟨V.heap.size, 0, none⟩ 1 1 [.int .i64 qx, .int .i64 qy] rfl rfl ?c1 ?c2 ?c3 ?c4 ?c5 ?_))
    case c2 => first | exact ⟨rfl, rfl⟩ | exact two_one _ _
    case c3 => unfold maxLen; omega
    case c4 => omega
    case c5 => first | omega | (simp; omega)
    intro v' V1 hown' hgrow _
    have hbV := hb.size
    have hob := (Array.getElem?_eq_some_iff.1 Hbox.out).1
    have hb1 : Below w.heap.size w V1 := (hb.alloc hbV _).grown hgrow (by simp; omega) (fun g hg => by have := Hxb.out g hg; omega)
    have hkb : ∀ j, j < V.heap.size → j < W.heap.size → V1.heap[j]? = V.heap[j]? := fun j h1 h2 => by
      rw [hgrow.block j (by simp; omega) (fun e => by have := Hxb.out _ e.symm; omega), Below.heap_alloc V _ _ h1]
    have hbx1 := (hkb w2.heap.size hob (by omega)).trans Hbox.out
    have c2 : V1.cell? ⟨w2.heap.size, 0, none⟩ = some x := by rw [cell_of_blk hbx1]; rfl
    have c3 : V1.frozen? ⟨w2.heap.size, 0, none⟩ = false := frozen_of_blk hbx1 0
    have kp : KeepsOthers V V1 := (KeepsOthers.alloc V _).trans (KeepsOthers.of_grownBy hgrow (fun j o hj ho => by
      rcases hown.2 with ⟨hx, _⟩ | ⟨g', cap', cur, hx, hgb, hh, _⟩
      · rw [hx] at hj; cases hj
      · rw [hx] at hj; simp [Value.ownBlock] at hj
        subst hj
        have hlt := (Array.getElem?_eq_some_iff.1 hh).1
        rw [Below.heap_alloc V _ _ hlt, hh] at ho
        cases ho; rfl))
    have hcb : cb < V.heap.size := (Array.getElem?_eq_some_iff.1 Hd.out.2.blk).1
    have hbw1 : Below w1.heap.size w1 V1 := (Hd.out.2.below.alloc Hd.out.2.below.size _).grown hgrow (by have := Hd.out.2.below.size; simp; omega) (fun g hg => by have := Hxb.out g hg; omega)
    have hcb1 := (hkb cb hcb (by omega)).trans Hd.out.2.blk
    have hs1' : V1.cell? ⟨w2.heap.size + 1, 0, none⟩ = some (.pointer (some ⟨cb, 0, none⟩)) := (World.cell?_of_block (hkb (w2.heap.size + 1) (block_lt_of_cell Hd.out.1) (by omega))).trans Hd.out.1
    have Hb1 := Lib.hid hb1
    have Hbx1 := Lib.hid hbx1
    have Hkp := Lib.hid kp
    have Hbw1 := Lib.hid hbw1
    have Hcb1 := Lib.hid hcb1
    have Hs1 := Lib.hid hs1'
    have Hits := Lib.hid Hd.out.2.its
    rw [← Hnext.out] at hown'
    obtain ⟨g2, cap2, rfl, hg2, -⟩ := hown'.form (Nat.succ_pos k)
    have Hown' := Lib.hid hown'
    clear hb1 hbx1 kp hgrow hown c0 c1 hkb hbw1 hcb1 hs1' hown' x0 x1
    gi_wp2
    have hset := grown_setCell' V1 w2.heap.size 0 (.slice (some ⟨g2, 0, none⟩) (k + 1) cap2)
    refine ⟨(Hkp.out.trans (KeepsOthers.setCell _ _ _)).from _, ⟨cell_grown hset Hs1.out (by show w2.heap.size + 1 ≠ w2.heap.size; omega), Hits.out, Hbw1.out.trans (grown_below hset (by omega) Hbw1.out.size), by omega, ?_⟩, .slice (some ⟨g2, 0, none⟩) (k + 1) cap2, ?_, ?_, Hb1.out.trans (grown_below hset (by omega) Hb1.out.size)⟩
    · rw [Below.heap_setCell _ _ _ _ (by show cb ≠ w2.heap.size; omega)]
      rw [Hq.out]; exact Hcb1.out
    · rw [blk_setCell Hbx1.out]; rfl
    · exact own_far Hown'.out hset (fun r e => by cases e; omega)
  case done =>
    rintro D V hD hVs ⟨x, hbox, hown, hb⟩ hK
    have hr : ∀ r, some D = some r → W.heap.size ≤ r ∧ ∃ o : Obj, V.heap[r]? = some o ∧ o.isCells = false := fun r e => by cases e; exact ⟨hD, _, hK, rfl⟩
    have c0 : V.cell? ⟨w2.heap.size, 0, none⟩ = some x := by rw [cell_of_blk hbox]; rfl
    have hK0 := Lib.hid hK
    have hr' := Lib.hid hr
    rw [List.take_length] at hown
    have Hown := Lib.hid hown
    have hWw : w.heap.size ≤ W.heap.size := by omega
    have hDw : w.heap.size ≤ D := by omega
    clear hr hown hWs
    go_wp2
    have hg := grownBy_putObj' V D (.deferred none)
    have hbl : Go.RowKit.Below w.heap.size w (V.putObj D (.deferred none)) := hb.trans (grown_below hg hDw hb.size)
    refine leave_mark hK0.out ?_ ⟨x, rfl, own_mono (own_kept2 Hown.out hg hr'.out) hWw, hbl⟩
    simp [results, Try.results12, go_sem]
  case stop =>
    rintro D c k V _ _ _ h _
    exact h.elim
end Go.Proofs.Ytcgkpbhoiaeolaa.Tithe
