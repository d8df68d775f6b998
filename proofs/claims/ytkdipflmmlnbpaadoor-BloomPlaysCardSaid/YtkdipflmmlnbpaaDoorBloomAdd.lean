/- A filter in memory; Bits, Probes, Add, Has, Set. -/
import Derived.Test.YtkdipflmmlnbpaaDoorBloomProbe
import Derived.StillTailTactics
namespace Go.Proofs.YtkdipflmmlnbpaaDoor.Tithe
open Go.RowKit Go.Sort Go.Shelf
set_option linter.unusedVariables false
attribute [local go_sem] Oper.semAt_some
structure IsFilter (w : World) (fb gb cap : Nat) (bs : List Nat) (p : Nat) : Prop where
  blk : w.heap[fb]? = some (.cells #[.slice (some ⟨gb, 0, none⟩) bs.length cap, .int .i64 p] 51 (0, 0))
  own : w.ownsRow 0 5 1 (.slice (some ⟨gb, 0, none⟩) bs.length cap) bs.length (cellsOfL bs)
  b8 : ∀ x ∈ bs, x < 256
  pos : 0 < bs.length
  most : bs.length ≤ 2097152
  p30 : 1 ≤ p ∧ p ≤ 30
theorem cell_of_blk {w : World} {b : Nat} {cs : Array Value} {t : TypeId} {fr : Nat × Nat} (h : w.heap[b]? = some (.cells cs t fr)) (i : Nat) : w.cell? ⟨b, i, none⟩ = cs[i]? := by
  simp [World.cell?, h]
theorem frozen_of_blk {w : World} {b : Nat} {cs : Array Value} {t : TypeId} (h : w.heap[b]? = some (.cells cs t (0, 0))) (i : Nat) : w.frozen? ⟨b, i, none⟩ = false := by
  simp [World.frozen?, h]
theorem own_blk {w : World} {base : Nat} {e : TypeId} {g n cap : Nat} {xs : List Value} (h : w.ownsRow base e 1 (.slice (some ⟨g, 0, none⟩) n cap) n xs) :
    ∃ cur, w.heap[g]? = some (.cells cur e (0, 0)) ∧ n ≤ cap ∧ cap ≤ maxLen ∧ cur.size = cap ∧ cur.toList.take n = xs := by
  obtain ⟨hl, h⟩ := h
  rcases h with ⟨h, _⟩ | ⟨g', cap', cur, hv, _, hh, h1, h2, h3, h4⟩
  · cases h
  · injection hv with e1 e2 e3
    injection e1 with e1
    injection e1 with e1
    subst e1 e3
    exact ⟨cur, hh, h1, h2, by simpa using h3, by simpa using h4⟩
theorem own_keep {w w' : World} {base : Nat} {e : TypeId} {g n cap : Nat} {xs : List Value} (h : w.ownsRow base e 1 (.slice (some ⟨g, 0, none⟩) n cap) n xs) (hk : w'.heap[g]? = w.heap[g]?) : w'.ownsRow base e 1 (.slice (some ⟨g, 0, none⟩) n cap) n xs := by
  obtain ⟨hl, h⟩ := h
  refine ⟨hl, ?_⟩
  rcases h with ⟨h, _⟩ | ⟨g', cap', cur, hv, hg, hh, r⟩
  · cases h
  · injection hv with e1 e2 e3
    injection e1 with e1
    injection e1 with e1
    subst e1 e3
    exact .inr ⟨g, cap, cur, rfl, hg, by rw [hk]; exact hh, r⟩
theorem IsFilter.keep {w w' : World} {fb gb cap : Nat} {bs : List Nat} {p : Nat} (h : IsFilter w fb gb cap bs p) (h1 : w'.heap[fb]? = w.heap[fb]?) (h2 : w'.heap[gb]? = w.heap[gb]?) : IsFilter w' fb gb cap bs p :=
  ⟨by rw [h1]; exact h.blk, own_keep h.own h2, h.b8, h.pos, h.most, h.p30⟩
theorem IsFilter.lt {w : World} {fb gb cap : Nat} {bs : List Nat} {p : Nat} (h : IsFilter w fb gb cap bs p) : fb < w.heap.size ∧ gb < w.heap.size := by
  obtain ⟨cur, hh, _⟩ := own_blk h.own
  exact ⟨(Array.getElem?_eq_some_iff.1 h.blk).1, (Array.getElem?_eq_some_iff.1 hh).1⟩
theorem IsFilter.ne {w : World} {fb gb cap : Nat} {bs : List Nat} {p : Nat} (h : IsFilter w fb gb cap bs p) : fb ≠ gb := by
  obtain ⟨cur, hh, _⟩ := own_blk h.own
  rintro rfl
  rw [h.blk] at hh
  injection hh with hh
  injection hh with _ ht
  exact absurd ht (by decide)
theorem IsFilter.below {B : Nat} {w w' : World} {fb gb cap : Nat} {bs : List Nat} {p : Nat} (h : IsFilter w fb gb cap bs p) (hb : Below w.heap.size w w') : IsFilter w' fb gb cap bs p :=
  h.keep (hb.block _ h.lt.1) (hb.block _ h.lt.2)
theorem IsFilter.kept {B : Nat} {W W' : World} {row : Option Nat} {fb gb cap : Nat} {bs : List Nat} {p : Nat} (h : IsFilter W fb gb cap bs p) (hg : W.grownBy W' row) (hr : ∀ r, row = some r → B ≤ r ∧ ∃ o : Obj, W.heap[r]? = some o ∧ o.isCells = false) : IsFilter W' fb gb cap bs p := by
  obtain ⟨cur, hh, _⟩ := own_blk h.own
  exact h.keep (blk_kept h.blk rfl hg hr) (blk_kept hh rfl hg hr)
theorem grown_setCell (w : World) (g i : Nat) (v : Value) : w.grownBy (w.setCell ⟨g, i, none⟩ v).drew (some g) :=
  ⟨rfl, rfl, rfl, by simp [World.setCell, World.drew], fun k _ hn => Below.heap_setCell w _ _ k (fun e => hn (by rw [e]))⟩
theorem IsFilter.set {w : World} {fb gb cap : Nat} {cs : List Nat} {p : Nat} (h : IsFilter w fb gb cap cs p) (i : Nat) (hi : i / 8 < cs.length) :
    IsFilter (w.setCell ⟨gb, i / 8, none⟩ (.int .u8 (cs.getD (i / 8) 0 ||| 2 ^ (i % 8) : Nat))).drew fb gb cap (setB cs i) p := by
  have hl : (setB cs i).length = cs.length := setB_length cs i
  have hs := (h.own.stored (i / 8) (.int .u8 (cs.getD (i / 8) 0 ||| 2 ^ (i % 8) : Nat))).1
  rw [cells_set] at hs
  refine ⟨?_, ?_, setB_byte h.b8 i, by rw [hl]; exact h.pos, by rw [hl]; exact h.most, h.p30⟩
  · rw [hl]
    exact (Below.heap_setCell w ⟨gb, i / 8, none⟩ _ fb h.ne).trans h.blk
  · rw [hl]; exact hs
theorem cell_setOther {w : World} {g i : Nat} {v u : Value} {a : Addr} (h : w.cell? a = some u) (hne : a.block ≠ g) : (w.setCell ⟨g, i, none⟩ v).drew.cell? a = some u :=
  (World.cell?_of_block (w := w) (Below.heap_setCell w ⟨g, i, none⟩ v a.block hne)).trans h
theorem or_bit (x r : Nat) (hx : x < 256) (hr : r < 8) : bits BinOp.or IntKind.u8 (x : Int) (IntKind.u8.wrap (2 ^ r)) = ((x ||| 2 ^ r : Nat) : Int) := by
  have h2 : 2 ^ r < 256 := show 2 ^ r < 2 ^ 8 from Nat.pow_lt_pow_right (by omega) hr
  have e : ((2 : Int) ^ r) = ((2 ^ r : Nat) : Int) := by simp
  rw [IntKind.wrap_u8', e]
  generalize 2 ^ r = y at *
  rw [show ((y : Nat) : Int) % 256 = (y : Int) from by omega]
  exact u8_or_nat _ _ hx h2
theorem bits_any (fb gb cap : Nat) (bs : List Nat) (p : Nat) (w : World) (hf : IsFilter w fb gb cap bs p) :
    Calls Tryd.prog 14 #[.pointer (some ⟨fb, 0, none⟩)] w fun e w' => e = .returned (.int .i64 (8 * bs.length : Nat)) ∧ w = w' := by
  have c0 : w.cell? ⟨fb, 0, none⟩ = some (.slice (some ⟨gb, 0, none⟩) bs.length cap) := by rw [cell_of_blk hf.blk]; rfl
  have hm := hf.most
  clear hf
  go_enter Tryd.func14, Tryd.ntmps14
  go_wp2
  go_ret
  exact ⟨congrArg (fun z => Ending.returned (.int .i64 z)) (by omega), rfl⟩
theorem add_keep (w : World) (ka : Option Addr) (kn kc : Nat) (l : List Nat) (fb gb cap : Nat) (bs : List Nat) (p : Nat) (hf : IsFilter w fb gb cap bs p) (hkeep : ∀ W' : World, w.grownBy W' (some gb) → IsBytes W' (.slice ka kn kc) l ∧ TabOk W') :
    Calls Tryd.prog 12 #[.pointer (some ⟨fb, 0, none⟩), .slice ka kn kc] w fun e w' => (∃ v, e = .returned v) ∧ IsFilter w' fb gb cap (addL bs (keyPlaces l (8 * bs.length) p)) p ∧ w.grownBy w' (some gb) := by
  have c0 : w.cell? ⟨fb, 0, none⟩ = some (.slice (some ⟨gb, 0, none⟩) bs.length cap) := by rw [cell_of_blk hf.blk]; rfl
  have c1 : w.cell? ⟨fb, 1, none⟩ = some (.int .i64 p) := by rw [cell_of_blk hf.blk]; rfl
  have HF := Lib.hid hf
  have hlt := hf.lt
  clear hf
  refine calls_of_marks Tryd.func12 rfl ?_
  simp only [Tryd.ntmps12, List.size_toArray, List.length_cons, List.length_nil, Nat.reduceAdd, Nat.reduceSub, Array.replicate_succ, Array.replicate_zero, List.push_toArray, List.append_toArray, List.nil_append, List.cons_append]
  go_wp2
  generalize hW : w.alloc (.cells #[.pointer (some ⟨fb, 0, none⟩)] 25) = W
  have hWb : Below w.heap.size w W := by rw [← hW]; exact (Below.refl _ _).alloc (Nat.le_refl _) _
  have hWs : W.heap.size = w.heap.size + 1 := by rw [← hW]; simp
  have e0 : W.heap[w.heap.size]? = some (.cells #[.pointer (some ⟨fb, 0, none⟩)] 25 (0, 0)) := by rw [← hW]; exact World.alloc_heap_new w _
  clear hW
  have HFW := Lib.hid (HF.out.below (B := 0) hWb)
  have k0 : W.cell? ⟨w.heap.size, 0, none⟩ = some (.pointer (some ⟨fb, 0, none⟩)) := by rw [cell_of_blk e0]; rfl
  have k1 : W.cell? ⟨fb, 1, none⟩ = some (.int .i64 p) := by rw [cell_of_blk HFW.out.blk]; rfl
  have f1 : Hid (IsFilter W.drew fb gb cap bs p) := HFW.out.below (B := 0) ((Below.refl _ _).drew)
  have E0 := Lib.hid e0
  have HWs := Lib.hid hWs
  clear e0 hWs
  go_still_tail 7, (by kernel_rfl)
  still_call ((bits_any fb gb cap bs p _ f1.out).mono fun _ _ h => ⟨h.1, h.2.symm⟩)
  repeat still_step
  refine wpStill_nil ?_
  change wpList _ _ _ _ _ W.drew
  go_wp2_with fail
  refine (probe_facts ka kn kc _ _ W.drew W.heap.size rfl).mono ?_
  rintro e W2 ⟨rfl, hb2, hs2, g0, g1, g2⟩
  go_wp2_with fail
  have hb2' : Below W.heap.size W W2 := ⟨hb2.os, hb2.tape, hb2.output, hb2.size, hb2.block⟩
  have hF2 : IsFilter W2 fb gb cap bs p := HFW.out.below (B := 0) hb2'
  have hx0 : W2.cell? ⟨w.heap.size, 0, none⟩ = some (.pointer (some ⟨fb, 0, none⟩)) := by rw [hb2'.cell (by show w.heap.size < _; rw [HWs.out]; omega)]; exact k0
  have hgw : w.grownBy W2 (some gb) := below_grown (hWb.trans (hb2'.mono (by rw [HWs.out]; omega))) _
  have hdat : ProbeDat W.heap.size (.slice ka kn kc) l (8 * bs.length) p W2 := ⟨g0, by rw [g1]; rfl, g2, (hkeep _ hgw).1, (hkeep _ hgw).2⟩
  have hm := HF.out.most
  have hpos := HF.out.pos
  have hp30 := HF.out.p30
  refine range_law (gf := 33) (lb := #[.pointer (some ⟨W.heap.size, 0, none⟩), .pointer (some ⟨W.heap.size + 1 + 1, 0, none⟩), .pointer (some ⟨W.heap.size + 1, 0, none⟩)]) rfl (enters_of Tryd.func33 (by kernel_rfl) rfl)
    (probe_iter W.heap.size (.slice ka kn kc) l (8 * bs.length) p (by omega) (by omega) (by omega)) (fun A B h => by subst h; exact KeepsFrom.refl _ _) (probeDat_kept _ _ _ _ _ _) hdat (fun _ => rfl)
    (fun k V => IsFilter V fb gb cap (addL bs (places (keyC l) (keyD l) (8 * bs.length) k)) p ∧ V.cell? ⟨w.heap.size, 0, none⟩ = some (.pointer (some ⟨fb, 0, none⟩)) ∧ w.grownBy V (some gb))
    (fun _ _ _ => False)
    (fun k V V' row h hg hr => ⟨h.1.kept hg hr, cellF_kept h.2.1 hg hr, grown_kept h.2.2 (by rw [hs2, HWs.out]; omega) hg hr⟩)
    (fun _ _ _ _ _ h _ _ => h) (fun k A B _ h e => by subst e; exact h) (fun c k A B _ h e => by subst e; exact h)
    ⟨hF2, hx0, hgw⟩
    ?a1 ?assign ?body ?done ?stop
  case assign =>
    intro yl k V K hK
    gi_wp2
    exact hK
  case body =>
    rintro yl k V hkp hVs ⟨hF, hx, hg⟩ hd
    have hpl : placeAt (keyC l) (keyD l) (8 * bs.length) k < 8 * bs.length := Nat.mod_lt _ (by omega)
    have hlen := addL_length (places (keyC l) (keyD l) (8 * bs.length) k) bs
    have hstep : addL bs (places (keyC l) (keyD l) (8 * bs.length) (k + 1)) = setB (addL bs (places (keyC l) (keyD l) (8 * bs.length) k)) (placeAt (keyC l) (keyD l) (8 * bs.length) k) := by
      rw [places_succ, addL_append]; rfl
    have Hstep := Lib.hid hstep
    have hd' := Lib.hid hd
    have hg' := Lib.hid hg
    clear hstep hd hg c0 c1 k0 k1 g0 g1 g2 hx0 hF2 hdat hgw hb2' hb2
    generalize addL bs (places (keyC l) (keyD l) (8 * bs.length) k) = cs at *
    generalize placeAt (keyC l) (keyD l) (8 * bs.length) k = i at *
    have v0 : V.cell? ⟨fb, 0, none⟩ = some (.slice (some ⟨gb, 0, none⟩) bs.length cap) := by rw [cell_of_blk hF.blk, ← hlen]; rfl
    have hi8 : i / 8 < cs.length := by omega
    have hx8 := getD_byte hF.b8 (i / 8)
    have v1' : V.cell? ⟨gb, i / 8, none⟩ = some (.int .u8 (cs.getD (i / 8) 0 : Nat)) := by
      rw [hF.own.cellAt (i / 8) (by omega), cellsOfL, List.getElem?_map, List.getElem?_eq_getElem hi8, List.getD_eq_getElem?_getD, List.getElem?_eq_getElem hi8]; rfl
    have v2' : V.frozen? ⟨gb, i / 8, none⟩ = false := hF.own.frozenAt _
    have hFv := Lib.hid hF
    clear hF
    obtain ⟨x, hxe⟩ : ∃ x, cs.getD (i / 8) 0 = x := ⟨_, rfl⟩
    obtain ⟨q, hq, hqn⟩ : ∃ q, i / 8 = q ∧ q < bs.length := ⟨_, rfl, by omega⟩
    obtain ⟨r, er, hr8⟩ : ∃ r, i % 8 = r ∧ r < 8 := ⟨_, rfl, Nat.mod_lt _ (by omega)⟩
    have v1 : V.cell? ⟨gb, q, none⟩ = some (.int .u8 (x : Nat)) := by rw [← hq, v1', hxe]
    have v2 : V.frozen? ⟨gb, q, none⟩ = false := by rw [← hq, v2']
    have hx8' : x < 256 := by rw [← hxe]; exact hx8
    have s1 : IntKind.i64.wrap ((i : Int) / 8) = (q : Int) := by rw [← hq]; exact IntWalk.i64_in _ (by omega)
    have s5 : (i : Int).tmod 8 = (r : Int) := by rw [Int.tmod_eq_emod_of_nonneg (by omega)]; omega
    have sE := or_bit x r hx8' hr8
    have HQ := Lib.hid (And.intro hxe (And.intro hq er))
    have Hlen := Lib.hid hlen
    have Hpl := Lib.hid hpl
    have Hi8 := Lib.hid hi8
    clear hxe hq er hlen v1' v2' hx8 hpl hi8
    gi_wp2
    refine round_still_tail 13 (by kernel_rfl) (by kernel_rfl) (by kernel_rfl) ?_ ?_
    · rintro ⟨a, w, h⟩
      exact h
    simp only [List.take_succ_cons, List.take_zero, List.drop_succ_cons, List.drop_zero]
    repeat still_step
    refine wpStill_nil ?_
    change wpList _ _ _ _ _ V.drew
    go_wp2
    obtain ⟨q1, q2, q3⟩ := HQ.out
    have hset := hFv.out.set i Hi8.out
    rw [q1, q2, q3, ← Hstep.out] at hset
    have hgn : w.grownBy (V.setCell ⟨gb, q, none⟩ (.int .u8 ((x ||| 2 ^ r : Nat) : Int))).drew (some gb) := grown_trans' hg'.out (grown_setCell V gb q _)
    have hkn := hkeep _ hgn
    have hWs := HWs.out
    refine ⟨(KeepsOthers.trans (KeepsOthers.setCell _ _ _) (KeepsOthers.drew _)).from _, ?_, hset, cell_setOther hx (by show w.heap.size ≠ gb; omega), hgn⟩
    exact ⟨cell_setOther hd'.out.1 (by show W.heap.size ≠ gb; omega), cell_setOther hd'.out.2.1 (by show W.heap.size + 1 ≠ gb; omega), cell_setOther hd'.out.2.2.1 (by show W.heap.size + 1 + 1 ≠ gb; omega), hkn.1, hkn.2⟩
  case done =>
    rintro D V hD hVs ⟨hF, hx, hg⟩ hK
    go_wp2
    have hr : ∀ r, some D = some r → W2.heap.size ≤ r ∧ ∃ o : Obj, V.heap[r]? = some o ∧ o.isCells = false := fun r e => by cases e; exact ⟨hD, _, hK, rfl⟩
    have hWs := HWs.out
    have r1 : IsFilter (V.putObj D (.deferred none)) fb gb cap (addL bs (keyPlaces l (8 * bs.length) p)) p := hF.kept (grownBy_putObj' V D _) hr
    have r2 : w.grownBy (V.putObj D (.deferred none)) (some gb) := grown_kept hg (by omega) (grownBy_putObj' V D _) hr
    exact leave_none rfl hK fun v => ⟨⟨v, rfl⟩, r1, r2⟩
  case stop =>
    rintro D c k V _ _ _ h _
    exact h.elim
theorem cell_grown {W W' : World} {gb : Nat} {a : Addr} {v : Value} (hg : W.grownBy W' (some gb)) (hc : W.cell? a = some v) (hn : a.block ≠ gb) : W'.cell? a = some v :=
  (World.cell?_of_block (hg.block a.block (block_lt_of_cell hc) (fun e => hn (Option.some.inj e)))).trans hc
theorem IsBytes.grown {W W' : World} {gb b off n c : Nat} {l : List Nat} (h : IsBytes W (.slice (some ⟨b, off, none⟩) n c) l) (hg : W.grownBy W' (some gb)) (hn : b ≠ gb) : IsBytes W' (.slice (some ⟨b, off, none⟩) n c) l := by
  obtain ⟨h8, a, c', e, h1, h2, h3⟩ := h
  refine ⟨h8, a, c', e, h1, h2, fun hne => ?_⟩
  obtain ⟨b', off', ha, hc⟩ := h3 hne
  subst ha
  injection e with e1 e2 e3
  injection e1 with e1
  injection e1 with e1 e4 e5
  subst e1 e4
  exact ⟨_, _, rfl, fun i hi => cell_grown hg (hc i hi) hn⟩
theorem TabOk.grown {W W' : World} {gb : Nat} (h : TabOk W) (hg : W.grownBy W' (some gb)) (hn : 0 ≠ gb) : TabOk W' := fun i hi => cell_grown hg (h i hi) hn
theorem TabOk.lt {W : World} (h : TabOk W) : 0 < W.heap.size := block_lt_of_cell (h 0 (by omega))
theorem add_any (w0 w : World) (hb0 : Below w0.heap.size w0 w) (ka : Option Addr) (kn kc : Nat) (l : List Nat) (hk : IsBytes w0 (.slice ka kn kc) l) (ht : TabOk w0) (fb gb cap : Nat) (bs : List Nat) (p : Nat) (hf : IsFilter w fb gb cap bs p) (hfb : w0.heap.size ≤ fb) (hgb : w0.heap.size ≤ gb) :
    Calls Tryd.prog 12 #[.pointer (some ⟨fb, 0, none⟩), .slice ka kn kc] w fun e w' => (∃ v, e = .returned v) ∧ IsFilter w' fb gb cap (addL bs (keyPlaces l (8 * bs.length) p)) p ∧ w.grownBy w' (some gb) :=
  add_keep w ka kn kc l fb gb cap bs p hf fun W' hg => ⟨hk.below (hb0.trans (grown_below hg hgb hb0.size)), ht.below (hb0.trans (grown_below hg hgb hb0.size))⟩
end Go.Proofs.YtkdipflmmlnbpaaDoor.Tithe
