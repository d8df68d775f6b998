/- The document's Apply: walked. -/
import Derived.Test.YtjefpogeknbelaaRefCheck
import Derived.Test.YtjefpogeknbelaaLevAppI
import Derived.Deep.RegionHeld3
namespace Go.Proofs.Ytjefpogeknbelaa.Tithe
open Go.RowKit Go.Sort Go.Shelf
set_option linter.unusedVariables false
set_option linter.unusedSimpArgs false
set_option maxRecDepth 100000
/-! ### a version of the document's, in a block that is written -/
def Slv (cs : Array Value) : Prop := ∀ (i : Nat) (y : Value), cs[i]? = some y → ∃ a n c, y = Value.slice a n c
theorem isMr_slice {w : World} {v : Value} {l : List Mr} (h : IsMr w v l) : ∃ a c, v = .slice a l.length c := by
  obtain ⟨a, c, e, -⟩ := h.1; exact ⟨a, c, e⟩
theorem isVn_slv {w : World} {U : Vn} (h : IsVn w U) : Slv U.cells := by
  intro i y hy
  have hi : i < 4 := (Array.getElem?_eq_some_iff.1 hy).1
  rw [vn_cell U hi] at hy
  injection hy with hy
  obtain ⟨a, c, e⟩ := isMr_slice (h i hi)
  exact ⟨a, _, c, hy ▸ e⟩
theorem isSl_far {α : Type} {enc : α → List Value} {sz : Nat} {W : World} {v : Value} {l : List α} {ob n : Nat} {cs : Array Value} {t : TypeId} {fr : Nat × Nat} {u : Value} (h : IsSl enc sz W v l) (hb : W.heap[ob]? = some (.cells cs t fr)) (hs : Slv cs) (hz : ∀ x, ∃ q, (enc x)[0]? = some (.int .i64 q)) : IsSl enc sz (W.setCell ⟨ob, n, none⟩ u) v l := by
  obtain ⟨a, c, e, h1, h2, h3⟩ := h
  refine ⟨a, c, e, h1, h2, fun hl => ?_⟩
  obtain ⟨b, off, ea, hc⟩ := h3 hl
  refine ⟨b, off, ea, fun i x hx j y hy => ?_⟩
  have hne : b ≠ ob := by
    rintro rfl
    obtain ⟨q, hq⟩ := hz x
    have h0 := hc i x hx 0 _ hq
    rw [cell_of_blk hb] at h0
    obtain ⟨a', n', c', e'⟩ := hs _ _ h0
    cases e'
  rw [← hc i x hx j y hy]
  have hh : (W.setCell ⟨ob, n, none⟩ u).heap[b]? = W.heap[b]? := Below.heap_setCell W ⟨ob, n, none⟩ u b hne
  simp only [World.cell?, hh]
theorem isMr_far {W : World} {v : Value} {l : List Mr} {ob n : Nat} {cs : Array Value} {t : TypeId} {fr : Nat × Nat} {u : Value} (h : IsMr W v l) (hb : W.heap[ob]? = some (.cells cs t fr)) (hs : Slv cs) : IsMr (W.setCell ⟨ob, n, none⟩ u) v l :=
  ⟨isSl_far h.1 hb hs (fun x => ⟨_, rfl⟩), fun r hr => isSl_far (h.2 r hr) hb hs (fun x => ⟨_, rfl⟩)⟩
def gdM (m : Mt) : Prop := m.refs.length ≤ 1000000 ∧ m.a.u.size ≤ maxLen ∧ m.b.u.size ≤ maxLen
structure RpQ (w : World) (ob N : Nat) (U : Vn) (W : World) : Prop where
  out : W.heap[ob]? = some (.cells U.cells 61 (0, 0))
  vn : IsVn W U
  bel : Below w.heap.size w W
  hob : w.heap.size ≤ ob
  len : ∀ n, n < 4 → (U.l n).length ≤ N
  good : ∀ n, n < 4 → ∀ r ∈ U.l n, gdM r.1
theorem RpQ.below {w W W' : World} {ob N : Nat} {U : Vn} (h : RpQ w ob N U W) (hb : Below W.heap.size W W') : RpQ w ob N U W' :=
  ⟨blk_bels hb h.out, h.vn.below hb, h.bel.trans (hb.mono h.bel.size), h.hob, h.len, h.good⟩
theorem RpQ.put {w W : World} {ob N M n : Nat} {U : Vn} {v' : Value} {l' : List Mr} (h : RpQ w ob N U W) (hn : n < 4) (hv : IsMr W v' l') (hN : N ≤ M) (hl : l'.length ≤ M) (hg : ∀ r ∈ l', gdM r.1) : RpQ w ob M (U.upd n v' l') (W.setCell ⟨ob, n, none⟩ v') := by
  have hs := isVn_slv h.vn
  refine ⟨?_, fun m hm => ?_, h.bel.setCell h.hob _, h.hob, fun m hm => ?_, fun m hm => ?_⟩
  · rw [blk_set h.out, upd_cells U hn]
  · rw [upd_v, upd_l]
    by_cases e : m = n
    · rw [if_pos e, if_pos e]; exact isMr_far hv h.out hs
    · rw [if_neg e, if_neg e]; exact isMr_far (h.vn m hm) h.out hs
  · rw [upd_l]; split
    · exact hl
    · exact Nat.le_trans (h.len m hm) hN
  · rw [upd_l]; split
    · exact hg
    · exact h.good m hm
theorem lvOf_updV (U : Vn) (n : Nat) (v : Value) (x : List Mr) : lvOf (U.upd n v x).l = (lvOf U.l).upd n (x.map (·.1)) := by
  funext i
  show ((if i = n then x else U.l i).map (·.1)) = _
  unfold Lv.upd lvOf
  split <;> rfl
/-- what the document's Apply answers -/
def RpOut (w : World) (V : Vn) (zs : List Int) (pm : List (Int × Mt)) (e : Ending) (w' : World) : Prop :=
  match applyP (lvOf V.l) zs pm with
  | none => e = .returned (.tuple #[.pointer none, .bool false]) ∧ Below w.heap.size w w'
  | some L' => ∃ (X : Vn) (xb : Nat), e = .returned (.tuple #[.pointer (some ⟨xb, 0, none⟩), .bool true]) ∧ w'.heap[xb]? = some (.cells X.cells 61 (0, 0)) ∧ IsVn w' X ∧ (∀ n, n < 4 → lvOf X.l n = L' n) ∧ w.heap.size ≤ xb ∧ Below w.heap.size w w'
theorem rpOut_no {w w' : World} {V : Vn} {zs : List Int} {pm : List (Int × Mt)} (h : applyP (lvOf V.l) zs pm = none) (hb : Below w.heap.size w w') : RpOut w V zs pm (.returned (.tuple #[.pointer none, .bool false])) w' := by
  unfold RpOut; rw [h]; exact ⟨rfl, hb⟩
theorem rpOut_yes {w w' : World} {V X : Vn} {zs : List Int} {pm : List (Int × Mt)} {L' : Lv} {xb N : Nat} (h : applyP (lvOf V.l) zs pm = some L') (hu : lvOf X.l = L') (hq : RpQ w xb N X w') : RpOut w V zs pm (.returned (.tuple #[.pointer (some ⟨xb, 0, none⟩), .bool true])) w' := by
  unfold RpOut; rw [h]; exact ⟨X, xb, rfl, hq.out, hq.vn, fun n _ => by rw [hu], hq.hob, hq.bel⟩
theorem has15_none {V : Vn} {vb : Nat} {z : Int} {w : World} (hvb : w.heap[vb]? = some (.cells V.cells 61 (0, 0))) (h : IsVn w V) (hp : hasP (lvOf V.l) z = none) :
    Calls Try.prog 23 #[.pointer (some ⟨vb, 0, none⟩), .int .i64 z] w fun e w' => e = .returned (.tuple #[.int .i64 (-1), .int .i64 (-1)]) ∧ w' = w :=
  (has15_any V vb z w hvb h).mono fun e w' q => by
    have q := q.out
    unfold Has15 at q
    rw [hp] at q
    exact ⟨q.2, q.1.symm⟩
theorem has15_some {V : Vn} {vb n i : Nat} {z : Int} {w : World} (hvb : w.heap[vb]? = some (.cells V.cells 61 (0, 0))) (h : IsVn w V) (hp : hasP (lvOf V.l) z = some (n, i)) :
    Calls Try.prog 23 #[.pointer (some ⟨vb, 0, none⟩), .int .i64 z] w fun e w' => e = .returned (.tuple #[.int .i64 (n : Nat), .int .i64 (i : Nat)]) ∧ w' = w :=
  (has15_any V vb z w hvb h).mono fun e w' q => by
    have q := q.out
    unfold Has15 at q
    rw [hp] at q
    exact ⟨q.2.2.2, q.1.symm⟩
theorem has15_lt {V : Vn} {n i : Nat} {z : Int} (hp : hasP (lvOf V.l) z = some (n, i)) : n < 4 ∧ i < (V.l n).length := by
  rcases hasF_tabs V.l z with ⟨h, -⟩ | ⟨n', i', hn, h, -, hi⟩
  · rw [hp] at h; cases h
  · rw [hp] at h; cases h
    exact ⟨hn, (List.findIdx?_eq_some_iff_getElem.1 hi).1⟩
theorem insP_at {l : List Mr} {k : Ky} {i : Nat} {x : Mr} (hx : l[i]? = some x) (h : ¬ cmpK x.1.a k < 0) (hlo : ∀ j y, j < i → l[j]? = some y → cmpK y.1.a k < 0) : insP (l.map (·.1)) k = i := by
  have hi := (List.getElem?_eq_some_iff.1 hx).1
  unfold insP
  rw [findIdx_map, List.findIdx?_eq_some_iff_getElem.2 ⟨hi, by rw [(List.getElem?_eq_some_iff.1 hx).2]; simp; omega, fun j hj => by have := hlo j _ hj (List.getElem?_eq_getElem (by omega)); simp; omega⟩]
theorem insP_end {l : List Mr} {k : Ky} (hlo : ∀ j y, j < l.length → l[j]? = some y → cmpK y.1.a k < 0) : insP (l.map (·.1)) k = l.length := by
  unfold insP
  rw [findIdx_map, List.findIdx?_eq_none_iff.2 (fun x hx => by
    obtain ⟨j, hj, rfl⟩ := List.mem_iff_getElem.1 hx
    have := hlo j _ hj (List.getElem?_eq_getElem hj)
    simp; omega), List.length_map]
theorem map_ins {l : List Mr} {i : Nat} {r : Mr} : (l.take i ++ r :: l.drop i).map (·.1) = (l.map (·.1)).take i ++ r.1 :: (l.map (·.1)).drop i := by
  rw [List.map_append, List.map_cons, List.map_take, List.map_drop]
theorem drop_step {U : Vn} {n i : Nat} {v : Value} {a : Int} {X : Option (Lv × Int)} (h : X = some ((lvOf U.l).upd n ((lvOf U.l n).eraseIdx i), a)) : X = some (lvOf (U.upd n v ((U.l n).eraseIdx i)).l, a) := by
  rw [h, lvOf_updV, map_erase]; rfl
theorem addP_some {U : Vn} {at0 : Int} {p : Int × Mr} {n i : Nat} (hn : p.1 = n) (h4 : n < 4) (hi : i = addAt (lvOf U.l) at0 (p.1, p.2.1)) (v : Value) : addP (lvOf U.l) at0 (p.1, p.2.1) = some (lvOf (U.upd n v ((U.l n).take i ++ p.2 :: (U.l n).drop i)).l) := by
  unfold addP
  rw [if_neg (by dsimp only; omega), ← hi, lvOf_updV, map_ins]
  have : (p.1, p.2.1).1.toNat = n := by dsimp only; omega
  rw [this]
  rfl
theorem mem_ins {l : List Mr} {i : Nat} {r x : Mr} (h : x ∈ l.take i ++ r :: l.drop i) : x = r ∨ x ∈ l := by
  rcases List.mem_append.1 h with h | h
  · exact .inr (List.mem_of_mem_take h)
  · rcases List.mem_cons.1 h with h | h
    · exact .inl h
    · exact .inr (List.mem_of_mem_drop h)
theorem len_ins {l : List Mr} {i : Nat} {r : Mr} (h : i ≤ l.length) : (l.take i ++ r :: l.drop i).length = l.length + 1 := by
  rw [List.length_append, List.length_take, List.length_cons, List.length_drop]; omega
theorem upd_len0 {X : Vn} {n A I : Nat} {v : Value} {r : Mr} (h : A ≤ (X.l 0).length) (hI : I ≤ (X.l n).length) : A ≤ ((X.upd n v ((X.l n).take I ++ r :: (X.l n).drop I)).l 0).length := by
  rw [upd_l]; split
  · rename_i e; subst e; rw [len_ins hI]; omega
  · exact h
theorem dropAt_le {U : Vn} {n i : Nat} {at0 : Int} {v : Value} (hi : i < (U.l n).length) (h : at0 ≤ (U.l 0).length) : dropAt n i at0 ≤ ((U.upd n v ((U.l n).eraseIdx i)).l 0).length := by
  rw [upd_l]
  by_cases e : 0 = n
  · subst e
    rw [if_pos rfl, List.length_eraseIdx_of_lt hi]
    unfold dropAt
    split
    · omega
    · split <;> omega
  · rw [if_neg e]
    unfold dropAt
    rw [if_neg (fun q => e q.1.symm), if_neg (fun q => e q.1.symm)]
    exact h
theorem addAt_pos {X : Vn} {at0 : Int} {n I : Nat} {m : Mt} (hn : 0 < n) (h : insP ((X.l n).map (·.1)) m.a = I) : I = addAt (lvOf X.l) at0 ((n : Int), m) := by
  unfold addAt
  dsimp only
  rw [if_pos (by omega), ← h, Int.toNat_natCast]; rfl
theorem addAt_zero {X : Vn} {at0 : Int} {n A : Nat} {m : Mt} (hn : n = 0) (h : A = (max at0 0).toNat) : A = addAt (lvOf X.l) at0 ((n : Int), m) := by
  unfold addAt
  dsimp only
  rw [if_neg (by omega), h]
theorem tabs_le {l : Nat → List Mr} {B : Nat} : ∀ (m : Nat), (∀ n, n < m → (l n).length ≤ B) → (tabs l m).length ≤ m * B
  | 0, _ => by simp [tabs]
  | m + 1, h => by
    have h1 := tabs_le m (fun n hn => h n (by omega))
    have h2 := h m (by omega)
    show (tabs l m ++ (l m).map (fun r => (m, r))).length ≤ _
    rw [List.length_append, List.length_map, Nat.succ_mul]; omega
theorem RpQ.check {w W : World} {ob N : Nat} {X : Vn} (h : RpQ w ob N X W) (hN : N ≤ 200000) : Calls Try.prog 56 #[.pointer (some ⟨ob, 0, none⟩)] W fun e w' => e = .returned (.bool (verOk X.l)) ∧ Below W.heap.size W w' :=
  rcheck_any X ob W h.out h.vn (fun p hp => by
    obtain ⟨hn, hp⟩ := tabs_mem hp
    exact h.good _ hn _ hp) (Nat.le_trans (tabs_le 4 h.len) (by omega))
attribute [local go_sem] Oper.semAt_some
set_option maxHeartbeats 6400000 in
theorem rapply_any (V : Vn) (vb : Nat) (va vd : Value) (ps : List (Int × Mr)) (zs : List Int) (w : World) (hvb : w.heap[vb]? = some (.cells V.cells 61 (0, 0))) (h : IsVn w V) (hlen : ∀ n, n < 4 → (V.l n).length ≤ 50000) (hgood : ∀ n, n < 4 → ∀ r ∈ V.l n, gdM r.1)
    (hps : IsPl w va ps) (hdz : IsDz w vd zs) (hpl : ps.length ≤ 40000) (hpg : ∀ p ∈ ps, gdM p.2.1) :
    Calls Try.prog 38 #[.pointer (some ⟨vb, 0, none⟩), va, vd] w fun e w' => Hid (RpOut w V zs (psM ps) e w') := by
  obtain ⟨aa, ac, rfl, -, -, -⟩ := id hps.1
  obtain ⟨da, dc, rfl, -, -, -⟩ := id hdz
  obtain ⟨-, hac, ham, hax⟩ := hps.1.at
  obtain ⟨-, hdc, hdm, hdx⟩ := hdz.at
  have Hax := Lib.hid hax
  have Hdx := Lib.hid hdx
  have Hrr := Lib.hid hps.2
  have Hpg := Lib.hid hpg
  obtain ⟨nd, hnd⟩ : ∃ nd, nd = zs.length := ⟨_, rfl⟩
  rw [← hnd] at hdc ⊢
  have Hnd := Lib.hid hnd
  obtain ⟨na, hna⟩ : ∃ na, na = ps.length := ⟨_, rfl⟩
  rw [← hna] at hac hpl ⊢
  have Hna := Lib.hid hna
  obtain ⟨a0, c0, e0⟩ := isMr_slice (h 0 (by omega))
  obtain ⟨a1, c1, e1⟩ := isMr_slice (h 1 (by omega))
  obtain ⟨a2, c2, e2⟩ := isMr_slice (h 2 (by omega))
  obtain ⟨a3, c3, e3⟩ := isMr_slice (h 3 (by omega))
  have hUc : V.cells = #[.slice a0 (V.l 0).length c0, .slice a1 (V.l 1).length c1, .slice a2 (V.l 2).length c2, .slice a3 (V.l 3).length c3] := by unfold Vn.cells; rw [e0, e1, e2, e3]
  have hQ : RpQ w w.heap.size 50000 V (w.alloc (.cells V.cells 61)) := ⟨blk_of_alloc _ _, h.below ((Below.refl _ _).alloc (Nat.le_refl _) _), (Below.refl _ _).alloc (Nat.le_refl _) _, Nat.le_refl _, hlen, hgood⟩
  rw [hUc] at hQ hvb
  generalize (V.l 0).length = n0 at *
  generalize (V.l 1).length = n1 at *
  generalize (V.l 2).length = n2 at *
  generalize (V.l 3).length = n3 at *
  have v0 := (cell_of_blk hvb 0).trans (show _ = some (.slice a0 n0 c0) from rfl)
  have v1 := (cell_of_blk hvb 1).trans (show _ = some (.slice a1 n1 c1) from rfl)
  have v2 := (cell_of_blk hvb 2).trans (show _ = some (.slice a2 n2 c2) from rfl)
  have v3 := (cell_of_blk hvb 3).trans (show _ = some (.slice a3 n3 c3) from rfl)
  have HQ := Lib.hid hQ
  clear hps hdz hax hdx hpg hnd hna h hlen hgood hvb hUc e0 e1 e2 e3 hQ
  go_enter Try.func38, Try.ntmps38
  go_wp2_with fail
  clear v0 v1 v2 v3
  generalize w.alloc (.cells #[.slice a0 n0 c0, .slice a1 n1 c1, .slice a2 n2 c2, .slice a3 n3 c3] 61) = W at *
  obtain ⟨ob, hob⟩ : ∃ ob, ob = w.heap.size := ⟨_, rfl⟩
  rw [← hob] at HQ ⊢
  have Hob := Lib.hid hob
  clear hob
  have hob2 : Hid (Hid (RpQ w ob 50000 V W)) := by
    have := Hob.out
    exact Lib.hid HQ
  go_loopw [9, 10] (fun av kv wr => ∃ k : Nat, k ≤ nd ∧ kv = .int .i64 k ∧ ∃ (U : Vn) (at0 : Int), av = .int .i64 at0 ∧ -1 ≤ at0 ∧ at0 ≤ 50000 ∧ at0 ≤ (U.l 0).length ∧ dropsP (lvOf V.l, -1) zs k = some (lvOf U.l, at0) ∧ RpQ w ob 50000 U wr) (fun _ kv _ => nd - (intOf kv).toNat)
  case atStart => exact ⟨0, Nat.zero_le _, rfl, V, -1, rfl, by omega, by omega, by omega, rfl, HQ.out⟩
  case round =>
    obtain ⟨wo, rfl⟩ : ∃ wo : World, wo = wr := ⟨_, rfl⟩
    obtain ⟨k, hk, rfl, U, at0, rfl, hat1, hat2, hat3, hdr, hq⟩ := hrel
    have Hat3 := Lib.hid hat3
    have Hdr := Lib.hid hdr
    have Hq := Lib.hid hq
    clear hdr hq hob2 HQ hat3
    by_cases hkn : k < nd
    · obtain ⟨db, doff, rfl, hdcell⟩ := Hdx.out (by rw [← Hnd.out]; omega)
      obtain ⟨z, hz⟩ : ∃ z, zs[k]? = some z := ⟨_, List.getElem?_eq_getElem (by rw [← Hnd.out]; exact hkn)⟩
      have dz : wo.cell? ⟨db, doff + k, none⟩ = some (.int .i64 z) := by
        have h0 := hdcell k z hz 0 _ rfl
        rw [Nat.mul_one, Nat.add_zero] at h0
        exact (Hq.out.bel.cell (block_lt_of_cell h0)).trans h0
      have Hst := Lib.hid (dropsP_step Hdr.out hz)
      clear hdcell hz
      cases hp : hasP (lvOf U.l) z with
      | none =>
        have Hno : Hid (applyP (lvOf V.l) zs (psM ps) = none) := Lib.hid (apply_drop_no (k := k + 1) (Hst.out.trans (by unfold dropP; dsimp only; rw [hp])) (by rw [← Hnd.out]; exact hkn))
        have HH := Lib.hid (has15_none Hq.out.out Hq.out.vn hp)
        clear hp
        go_wp2_with fail
        refine HH.out.mono ?_
        rintro e w' ⟨rfl, rfl⟩
        clear HH
        go_wp2
        go_ret2
        exact Lib.hid (rpOut_no Hno.out Hq.out.bel)
      | some p =>
        obtain ⟨n, i⟩ := p
        obtain ⟨hn4, hi⟩ := has15_lt hp
        have hlenU := Hq.out.len n hn4
        have hd1 : dropP (lvOf U.l, at0) z = some ((lvOf U.l).upd n ((lvOf U.l n).eraseIdx i), dropAt n i at0) := by unfold dropP; dsimp only; rw [hp]
        have Hst2 := Lib.hid (Hst.out.trans hd1)
        have HH := Lib.hid (has15_some Hq.out.out Hq.out.vn hp)
        have hi50 : i < 50000 := by omega
        have Hi := Lib.hid hi
        have hn0 : ¬ (n : Int) < 0 := by omega
        have hn4i : (n : Int) < 4 := by omega
        have Hwi := Lib.hid (fun (W' : World) (hW : Below wo.heap.size wo W') => without_any (U.v n) (U.l n) i W' ((Hq.out.vn n hn4).below hW) (by omega) (by omega) (by omega))
        obtain ⟨sa, sc, hsv⟩ := isMr_slice (Hq.out.vn n hn4)
        rw [hsv] at Hwi
        have hcl := (vn_cell U hn4).trans (by rw [hsv])
        have Hcl := Lib.hid hcl
        clear hp hd1 hi hlenU hsv hcl
        go_wp2_with fail
        refine HH.out.mono ?_
        rintro e w' ⟨rfl, rfl⟩
        clear HH dz
        go_wp2_with fail
        have K0 := Lib.hid ((Below.refl w'.heap.size w').drew)
        have hb0 := blk_bels K0.out Hq.out.out
        refine wp_region_held_drew (S := fun _ => True) (by kernel_rfl) trivial (fun _ => ?_)
        refine wpAnyH_take (i := 0) (oi := { dst := some 39, op := Op.move (Operand.tmp 8), type := 49, pos := "ref.go:108", after := #[], guard := none }) (v := ?_) rfl (by kernel_rfl) (by kernel_rfl) (by kernel_rfl) (fun _ _ _ h => h) (Or.inl ⟨by rfl, ?hy1⟩) trivial ?_
        case hy1 => (intro V hSw; (try dsimp only at hSw); clear hSw; go_simp; try with_reducible rfl)
        try simp only [Act.put, List.setIfInBounds_toArray, List.set_cons_zero, List.set_cons_succ]
        refine wpAnyH_take (i := 1) (oi := { dst := some 40, op := Op.move (Operand.tmp 11), type := 3, pos := "ref.go:108", after := #[], guard := none }) (v := ?_) rfl (by kernel_rfl) (by kernel_rfl) (by kernel_rfl) (fun _ _ _ h => h) (Or.inl ⟨by rfl, ?hy2⟩) trivial ?_
        case hy2 => (intro V hSw; (try dsimp only at hSw); clear hSw; go_simp; try with_reducible rfl)
        try simp only [Act.put, List.setIfInBounds_toArray, List.set_cons_zero, List.set_cons_succ]
        refine wpAnyH_take (i := 2) (oi := { dst := some 41, op := Op.move (Operand.tmp 8), type := 49, pos := "ref.go:108", after := #[], guard := none }) (v := ?_) rfl (by kernel_rfl) (by kernel_rfl) (by kernel_rfl) (fun _ _ _ h => h) (Or.inl ⟨by rfl, ?hy3⟩) trivial ?_
        case hy3 => (intro V hSw; (try dsimp only at hSw); clear hSw; go_simp; try with_reducible rfl)
        try simp only [Act.put, List.setIfInBounds_toArray, List.set_cons_zero, List.set_cons_succ]
        refine wpAnyH_take (i := 3) (oi := { dst := some 42, op := Op.move (Operand.tmp 11), type := 3, pos := "ref.go:108", after := #[], guard := none }) (v := ?_) rfl (by kernel_rfl) (by kernel_rfl) (by kernel_rfl) (fun _ _ _ h => h) (Or.inl ⟨by rfl, ?hy4⟩) trivial ?_
        case hy4 => (intro V hSw; (try dsimp only at hSw); clear hSw; go_simp; try with_reducible rfl)
        try simp only [Act.put, List.setIfInBounds_toArray, List.set_cons_zero, List.set_cons_succ]
        refine wpAnyH_take (i := 4) (oi := { dst := some 43, op := Op.nilCheck (Operand.tmp 41), type := 0, pos := "ref.go:108", after := #[{ on := 2, ground := Ground.data }], guard := none }) (v := ?_) rfl (by kernel_rfl) (by kernel_rfl) (by kernel_rfl) (fun _ _ _ h => h) (Or.inl ⟨by rfl, ?hy5⟩) trivial ?_
        case hy5 => (intro V hSw; (try dsimp only at hSw); clear hSw; go_simp; try with_reducible rfl)
        try simp only [Act.put, List.setIfInBounds_toArray, List.set_cons_zero, List.set_cons_succ]
        refine wpAnyH_take (i := 5) (oi := { dst := some 44, op := Op.fieldAddr 61 (Operand.tmp 43) 0, type := 0, pos := "ref.go:108", after := #[{ on := 4, ground := Ground.data }], guard := none }) (v := ?_) rfl (by kernel_rfl) (by kernel_rfl) (by kernel_rfl) (fun _ _ _ h => h) (Or.inl ⟨by rfl, ?hy6⟩) trivial ?_
        case hy6 => (intro V hSw; (try dsimp only at hSw); clear hSw; go_simp; try with_reducible rfl)
        try simp only [Act.put, List.setIfInBounds_toArray, List.set_cons_zero, List.set_cons_succ]
        refine wpAnyH_take (i := 6) (oi := { dst := some 45, op := Op.indexAddr 59 (Operand.tmp 44) (Operand.tmp 42), type := 0, pos := "ref.go:108", after := #[{ on := 5, ground := Ground.data }, { on := 3, ground := Ground.data }], guard := none }) (v := ?_) rfl (by kernel_rfl) (by kernel_rfl) (by kernel_rfl) (fun _ _ _ h => h) (Or.inl ⟨by rfl, ?hy7⟩) trivial ?_
        case hy7 => (intro V hSw; (try dsimp only at hSw); clear hSw; go_simp; try with_reducible rfl)
        try simp only [Act.put, List.setIfInBounds_toArray, List.set_cons_zero, List.set_cons_succ]
        refine wpAnyH_take (i := 8) (oi := { dst := some 47, op := Op.move (Operand.tmp 12), type := 3, pos := "ref.go:108", after := #[], guard := none }) (v := ?_) rfl (by kernel_rfl) (by kernel_rfl) (by kernel_rfl) (fun _ _ _ h => h) (Or.inl ⟨by rfl, ?hy8⟩) trivial ?_
        case hy8 => (intro V hSw; (try dsimp only at hSw); clear hSw; go_simp; try with_reducible rfl)
        try simp only [Act.put, List.setIfInBounds_toArray, List.set_cons_zero, List.set_cons_succ]
        refine wpAnyH_take (i := 10) (oi := { dst := some 49, op := Op.nilCheck (Operand.tmp 39), type := 0, pos := "ref.go:108", after := #[{ on := 0, ground := Ground.data }], guard := none }) (v := ?_) rfl (by kernel_rfl) (by kernel_rfl) (by kernel_rfl) (fun _ _ _ h => h) (Or.inl ⟨by rfl, ?hy9⟩) trivial ?_
        case hy9 => (intro V hSw; (try dsimp only at hSw); clear hSw; go_simp; try with_reducible rfl)
        try simp only [Act.put, List.setIfInBounds_toArray, List.set_cons_zero, List.set_cons_succ]
        refine wpAnyH_take (i := 11) (oi := { dst := some 50, op := Op.fieldAddr 61 (Operand.tmp 49) 0, type := 0, pos := "ref.go:108", after := #[{ on := 10, ground := Ground.data }], guard := none }) (v := ?_) rfl (by kernel_rfl) (by kernel_rfl) (by kernel_rfl) (fun _ _ _ h => h) (Or.inl ⟨by rfl, ?hy10⟩) trivial ?_
        case hy10 => (intro V hSw; (try dsimp only at hSw); clear hSw; go_simp; try with_reducible rfl)
        try simp only [Act.put, List.setIfInBounds_toArray, List.set_cons_zero, List.set_cons_succ]
        refine wpAnyH_ready (rs := [7]) (by kernel_rfl) (by simp) (AllReadyH.cons rfl (fun K hK => ?_) AllReadyH.nil)
        have hl9 := (cell_of_blk hb0 n).trans Hcl.out
        go_simp
        clear hl9
        refine hK.out _ _ trivial (fun _ => ?_)
        clear hK K
        try simp only [Act.put, List.setIfInBounds_toArray, List.set_cons_zero, List.set_cons_succ]
        refine wpAnyH_ready (rs := [9]) (by kernel_rfl) (by simp) (AllReadyH.cons rfl (fun K hK => ?_) AllReadyH.nil)
        go_simp
        refine (Hwi.out _ K0.out).mono ?_
        rintro e w3 ⟨v3, rfl, hm3, hv3⟩
        have hq3 := (Hq.out.below K0.out).below hv3
        rw [woP_all Hi.out] at hm3
        have Hp3 := Lib.hid (hq3.put hn4 hm3 (Nat.le_refl _) (by have := List.length_eraseIdx_le (U.l n) i; have := hq3.len n hn4; omega) (fun r hr => hq3.good n hn4 r (List.mem_of_mem_eraseIdx hr)))
        have hpc := (cell_of_blk hq3.out n).trans Hcl.out
        have hpz := frozen_of_blk hq3.out n
        obtain ⟨ya, yc, rfl⟩ := isMr_slice hm3
        clear hq3 hm3 hv3
        refine hK.out _ _ trivial (fun _ => ?_)
        clear hK K
        try simp only [Act.put, List.setIfInBounds_toArray, List.set_cons_zero, List.set_cons_succ]
        refine wpAnyH_take (i := 12) (oi := { dst := some 51, op := Op.indexAddr 59 (Operand.tmp 50) (Operand.tmp 40), type := 0, pos := "ref.go:108", after := #[{ on := 11, ground := Ground.data }, { on := 1, ground := Ground.data }, { on := 0, ground := Ground.phase }, { on := 1, ground := Ground.phase }, { on := 2, ground := Ground.phase }, { on := 3, ground := Ground.phase }, { on := 4, ground := Ground.phase }, { on := 5, ground := Ground.phase }, { on := 6, ground := Ground.phase }, { on := 7, ground := Ground.phase }, { on := 8, ground := Ground.phase }, { on := 9, ground := Ground.phase }], guard := none }) (v := ?_) rfl (by kernel_rfl) (by kernel_rfl) (by kernel_rfl) (fun _ _ _ h => h) (Or.inl ⟨by rfl, ?hy11⟩) trivial ?_
        case hy11 => (intro V hSw; (try dsimp only at hSw); clear hSw; go_simp; try with_reducible rfl)
        try simp only [Act.put, List.setIfInBounds_toArray, List.set_cons_zero, List.set_cons_succ]
        refine wpAnyH_ready (rs := [13]) (by kernel_rfl) (by simp) (AllReadyH.cons rfl (fun K hK => ?_) AllReadyH.nil)
        go_simp
        refine hK.out _ _ trivial (fun _ => ?_)
        clear hK K
        try simp only [Act.put, List.setIfInBounds_toArray, List.set_cons_zero, List.set_cons_succ]
        refine wpAnyH_done (by kernel_rfl) ?_ _
        clear hpc hpz
        have Hst3 := Lib.hid (drop_step (v := .slice ya ((U.l n).eraseIdx i).length yc) Hst2.out)
        have Hda := Lib.hid (dropAt_le (v := .slice ya ((U.l n).eraseIdx i).length yc) Hi.out Hat3.out)
        generalize w3.setCell ⟨ob, n, none⟩ (.slice ya ((U.l n).eraseIdx i).length yc) = w4 at *
        clear Hst2 Hst
        by_cases hn00 : n = 0
        · have hz0 : ((n : Int) == 0) = true := by simpa using hn00
          by_cases hat0 : at0 < 0
          · have hdA : dropAt n i at0 = (i : Int) := by unfold dropAt; rw [if_pos ⟨hn00, hat0⟩]
            have Hn := Lib.hid hn00
            clear hn00
            rw [hdA] at Hst3 Hda
            go_wp2
            go_roundw
            case rel => exact ⟨k + 1, by omega, by go_num, _, _, rfl, by omega, by omega, Hda.out, Hst3.out, Hp3.out⟩
            case measure => simp [intOf]; omega
          · by_cases hia : (i : Int) < at0
            · have hdA : dropAt n i at0 = at0 - 1 := by unfold dropAt; rw [if_neg (fun q => hat0 q.2), if_pos ⟨hn00, hia⟩]
              have hwr : IntKind.i64.wrap (at0 - 1) = at0 - 1 := IntWalk.i64_in _ (by omega)
              have Hn := Lib.hid hn00
              clear hn00
              rw [hdA] at Hst3 Hda
              go_wp2
              go_roundw
              case rel => exact ⟨k + 1, by omega, by go_num, _, _, rfl, by omega, by omega, Hda.out, Hst3.out, Hp3.out⟩
              case measure => simp [intOf]; omega
            · have hdA : dropAt n i at0 = at0 := by unfold dropAt; rw [if_neg (fun q => hat0 q.2), if_neg (fun q => hia q.2)]
              have Hn := Lib.hid hn00
              clear hn00
              rw [hdA] at Hst3 Hda
              go_wp2
              go_roundw
              case rel => exact ⟨k + 1, by omega, by go_num, _, _, rfl, by omega, by omega, Hda.out, Hst3.out, Hp3.out⟩
              case measure => simp [intOf]; omega
        · have hz0 : ((n : Int) == 0) = false := by simpa using hn00
          have hdA : dropAt n i at0 = at0 := by unfold dropAt; rw [if_neg (fun q => hn00 q.1), if_neg (fun q => hn00 q.1)]
          have Hn := Lib.hid hn00
          clear hn00
          rw [hdA] at Hst3 Hda
          go_wp2
          go_roundw
          case rel => exact ⟨k + 1, by omega, by go_num, _, _, rfl, by omega, by omega, Hda.out, Hst3.out, Hp3.out⟩
          case measure => simp [intOf]; omega
    · obtain rfl : k = nd := by omega
      have Hdz := Hdr
      rw [Hnd.out] at Hdz
      obtain ⟨A, hA⟩ : ∃ A : Nat, A = (max at0 0).toNat := ⟨_, rfl⟩
      have hA5 : A ≤ 50000 := by omega
      have HA := Lib.hid hA
      have HAl : Hid (A ≤ (U.l 0).length) := Lib.hid (by have := Hat3.out; omega)
      clear Hdr hA
      go_upto_if 63 with fail
      go_cut [9] (fun av wc => av = .int .i64 (A : Nat) ∧ wc = wo)
      case first =>
        by_cases hneg : at0 < 0
        · have HA0 : Hid (A = 0) := Lib.hid (by have := HA.out; omega)
          go_wp2_with fail
          go_meet
          case rel => exact ⟨by rw [HA0.out]; rfl, rfl⟩
        · have HA0 : Hid ((A : Int) = at0) := Lib.hid (by have := HA.out; omega)
          go_wp2_with fail
          go_meet
          case rel => exact ⟨by rw [HA0.out], rfl⟩
      case rest =>
        obtain ⟨rfl, rfl⟩ := hcut
        clear Hat3
        go_wp2_with fail
        go_loopw [13] (fun kv wr => ∃ j : Nat, j ≤ na ∧ kv = .int .i64 j ∧ ∃ X : Vn, addsP (lvOf U.l) at0 (psM ps) j = some (lvOf X.l) ∧ A ≤ (X.l 0).length ∧ RpQ w ob (50000 + j) X wr) (fun kv _ => na - (intOf kv).toNat)
        case atStart => exact ⟨0, Nat.zero_le _, rfl, U, rfl, HAl.out, Hq.out⟩
        case round =>
          obtain ⟨wy, rfl⟩ : ∃ wy : World, wy = wr := ⟨_, rfl⟩
          obtain ⟨j, hj, rfl, X, hadd, hAX, hqX⟩ := hrel
          have Hadd := Lib.hid hadd
          have HAX := Lib.hid hAX
          have HqX := Lib.hid hqX
          clear hadd hAX hqX Hq HAl
          by_cases hjn : j < na
          · obtain ⟨b, off, rfl, hcell⟩ := Hax.out (by rw [← Hna.out]; omega)
            obtain ⟨p, hpk⟩ : ∃ p, ps[j]? = some p := ⟨_, List.getElem?_eq_getElem (by rw [← Hna.out]; exact hjn)⟩
            obtain ⟨d0, d1, d2, d3, d4, d5, d6, d7, d8, d9⟩ := IsPl.row (w := wy) (fun i x hi y z hz => (HqX.out.bel.cell (block_lt_of_cell (hcell i x hi y z hz))).trans (hcell i x hi y z hz)) hpk
            have hrp := Hrr.out p (List.mem_of_getElem? hpk)
            have Hgd := Lib.hid (Hpg.out p (List.mem_of_getElem? hpk))
            have hpm : (psM ps)[j]? = some (p.1, p.2.1) := by unfold psM; rw [List.getElem?_map, hpk]; rfl
            obtain ⟨lv, ⟨⟨mz, mn, a, b2, refs⟩, vr⟩⟩ := p
            dsimp only at d0 d1 d2 d3 d4 d5 d6 d7 d8 d9 hrp Hgd hpm
            obtain ⟨ra, rc, hrv, -, -, -⟩ := id hrp
            obtain ⟨rn, hrn⟩ : ∃ rn, rn = refs.length := ⟨_, rfl⟩
            rw [← hrn] at hrv
            subst hrv
            have Hpm := Lib.hid hpm
            have Hrp := Lib.hid (fun (W2 : World) (hW : Below w.heap.size w W2) => hrp.below hW)
            have HbP := Lib.hid ((Below.refl wy.heap.size wy).alloc (Nat.le_refl _) (.cells #[.int .i64 lv, .int .i64 mz, .int .i64 mn, .string a.u, .int .i64 a.s, .int .i64 a.k, .string b2.u, .int .i64 b2.s, .int .i64 b2.k, .slice ra rn rc] 89))
            have HqP := Lib.hid (HqX.out.below HbP.out)
            have HpP := Lib.hid (blk_of_alloc wy (.cells #[.int .i64 lv, .int .i64 mz, .int .i64 mn, .string a.u, .int .i64 a.s, .int .i64 a.k, .string b2.u, .int .i64 b2.s, .int .i64 b2.k, .slice ra rn rc] 89))
            obtain ⟨pb, hpb⟩ : ∃ pb, pb = wy.heap.size := ⟨_, rfl⟩
            have hopb : ob < pb := by rw [hpb]; exact blk_lt HqX.out.out
            rw [← hpb] at HpP
            have Hpb := Lib.hid hpb
            clear hcell hpk hrp hpm hrn hpb
            by_cases hneg : lv < 0
            · have hbad := Lib.hid (show lv < 0 ∨ 4 ≤ lv from .inl hneg)
              have hd1 : decide (lv < 0) = true := decide_eq_true hneg
              have Hno := Lib.hid (apply_add_no (k := j + 1) Hdz.out (by rw [addsP_step Hadd.out Hpm.out]; exact add_none hbad.out) (by unfold psM; rw [List.length_map, ← Hna.out]; exact hjn))
              go_wp2_with fail
              go_ret2
              exact Lib.hid (rpOut_no Hno.out HqP.out.bel)
            · have hd1 : decide (lv < 0) = false := decide_eq_false hneg
              by_cases hbig : 3 < lv
              · have hbad := Lib.hid (show lv < 0 ∨ 4 ≤ lv from .inr (by omega))
                have hd2 : decide (lv > 3) = true := decide_eq_true hbig
                have hd3 : decide (3 < lv) = true := decide_eq_true hbig
                have Hno := Lib.hid (apply_add_no (k := j + 1) Hdz.out (by rw [addsP_step Hadd.out Hpm.out]; exact add_none hbad.out) (by unfold psM; rw [List.length_map, ← Hna.out]; exact hjn))
                go_wp2_with fail
                go_ret2
                exact Lib.hid (rpOut_no Hno.out HqP.out.bel)
              · obtain ⟨n, rfl⟩ : ∃ n : Nat, lv = (n : Int) := ⟨lv.toNat, by omega⟩
                have hn4 : n < 4 := by omega
                have hni : (n : Int) < 4 := by omega
                have hd2 : decide ((n : Int) > 3) = false := decide_eq_false hbig
                have hd3 : decide (3 < (n : Int)) = false := decide_eq_false hbig
                obtain ⟨sa, sc, hsv⟩ := isMr_slice (HqP.out.vn n hn4)
                have Hcl := Lib.hid ((vn_cell X hn4).trans (by rw [hsv]))
                have Hsv := Lib.hid hsv
                clear hsv
                by_cases hn0 : n = 0
                · have hgt : decide ((n : Int) > 0) = false := decide_eq_false (by omega)
                  have hgt2 : decide (0 < (n : Int)) = false := decide_eq_false (by omega)
                  have hgt3 : ¬ 0 < n := by omega
                  have HIle : Hid (A ≤ (X.l n).length) := Lib.hid (by rw [hn0]; exact HAX.out)
                  have HIat := Lib.hid (addAt_zero (X := X) (m := ⟨mz, mn, a, b2, refs⟩) hn0 HA.out)
                  have Hn0 := Lib.hid hn0
                  clear hn0
                  go_wp2_with fail
                  rw [← Hpb.out]
                  have HqG := HqP
                  have HpG := HpP
                  clear HqP HpP HbP d0 d1 d2 d3 d4 d5 d6 d7 d8 d9
                  generalize wy.alloc (.cells #[.int .i64 n, .int .i64 mz, .int .i64 mn, .string a.u, .int .i64 a.s, .int .i64 a.k, .string b2.u, .int .i64 b2.s, .int .i64 b2.k, .slice ra rn rc] 89) = Wg at *
                  have Hwi := Lib.hid (fun (W2 : World) (hW : Below Wg.heap.size Wg W2) => with_any (X.v n) (X.l n) (A : Nat) (⟨mz, mn, a, b2, refs⟩, .slice ra rn rc) W2 ((HqG.out.vn n hn4).below hW) ((Hrp.out _ HqG.out.bel).below hW) (by have := HqG.out.len n hn4; omega))
                  rw [Hsv.out] at Hwi
                  unfold mrC at Hwi
                  dsimp only at Hwi
                  have K0 := Lib.hid ((Below.refl Wg.heap.size Wg).drew)
                  have hb0 := Lib.hid (blk_bels K0.out HqG.out.out)
                  have hS0 := blk_bels K0.out HpG.out
                  refine wp_region_held_drew (S := fun V => V.heap[pb]? = some (.cells #[.int .i64 n, .int .i64 mz, .int .i64 mn, .string a.u, .int .i64 a.s, .int .i64 a.k, .string b2.u, .int .i64 b2.s, .int .i64 b2.k, .slice ra rn rc] 89 (0, 0))) (by kernel_rfl) hS0 (fun hS0 => ?_)
                  refine wpAnyH_take (i := 0) (oi := { dst := some 116, op := Op.move (Operand.tmp 8), type := 49, pos := "ref.go:132", after := #[], guard := none }) (v := ?_) rfl (by kernel_rfl) (by kernel_rfl) (by kernel_rfl) (fun _ _ _ h => h) (Or.inl ⟨by rfl, ?hy12⟩) hS0 ?_
                  case hy12 => (intro V hSw; (try dsimp only at hSw); have hcw := fun j => cell_of_blk hSw j; clear hSw; go_simp; try with_reducible rfl)
                  try simp only [Act.put, List.setIfInBounds_toArray, List.set_cons_zero, List.set_cons_succ]
                  refine wpAnyH_take (i := 1) (oi := { dst := some 117, op := Op.fieldAddr 89 (Operand.tmp 14) 0, type := 0, pos := "ref.go:132", after := #[], guard := none }) (v := ?_) rfl (by kernel_rfl) (by kernel_rfl) (by kernel_rfl) (fun _ _ _ h => h) (Or.inl ⟨by rfl, ?hy13⟩) hS0 ?_
                  case hy13 => (intro V hSw; (try dsimp only at hSw); have hcw := fun j => cell_of_blk hSw j; clear hSw; go_simp; try with_reducible rfl)
                  try simp only [Act.put, List.setIfInBounds_toArray, List.set_cons_zero, List.set_cons_succ]
                  refine wpAnyH_take (i := 2) (oi := { dst := some 118, op := Op.load 3 (Operand.tmp 117), type := 3, pos := "ref.go:132", after := #[{ on := 1, ground := Ground.data }], guard := none }) (v := ?_) rfl (by kernel_rfl) (by kernel_rfl) (by kernel_rfl) (fun _ _ _ h => h) (Or.inl ⟨by rfl, ?hy14⟩) hS0 ?_
                  case hy14 => (intro V hSw; (try dsimp only at hSw); have hcw := fun j => cell_of_blk hSw j; clear hSw; go_simp; try with_reducible rfl)
                  try simp only [Act.put, List.setIfInBounds_toArray, List.set_cons_zero, List.set_cons_succ]
                  refine wpAnyH_take (i := 3) (oi := { dst := some 119, op := Op.move (Operand.tmp 8), type := 49, pos := "ref.go:132", after := #[], guard := none }) (v := ?_) rfl (by kernel_rfl) (by kernel_rfl) (by kernel_rfl) (fun _ _ _ h => h) (Or.inl ⟨by rfl, ?hy15⟩) hS0 ?_
                  case hy15 => (intro V hSw; (try dsimp only at hSw); have hcw := fun j => cell_of_blk hSw j; clear hSw; go_simp; try with_reducible rfl)
                  try simp only [Act.put, List.setIfInBounds_toArray, List.set_cons_zero, List.set_cons_succ]
                  refine wpAnyH_take (i := 4) (oi := { dst := some 120, op := Op.fieldAddr 89 (Operand.tmp 14) 0, type := 0, pos := "ref.go:132", after := #[], guard := none }) (v := ?_) rfl (by kernel_rfl) (by kernel_rfl) (by kernel_rfl) (fun _ _ _ h => h) (Or.inl ⟨by rfl, ?hy16⟩) hS0 ?_
                  case hy16 => (intro V hSw; (try dsimp only at hSw); have hcw := fun j => cell_of_blk hSw j; clear hSw; go_simp; try with_reducible rfl)
                  try simp only [Act.put, List.setIfInBounds_toArray, List.set_cons_zero, List.set_cons_succ]
                  refine wpAnyH_take (i := 5) (oi := { dst := some 121, op := Op.load 3 (Operand.tmp 120), type := 3, pos := "ref.go:132", after := #[{ on := 4, ground := Ground.data }], guard := none }) (v := ?_) rfl (by kernel_rfl) (by kernel_rfl) (by kernel_rfl) (fun _ _ _ h => h) (Or.inl ⟨by rfl, ?hy17⟩) hS0 ?_
                  case hy17 => (intro V hSw; (try dsimp only at hSw); have hcw := fun j => cell_of_blk hSw j; clear hSw; go_simp; try with_reducible rfl)
                  try simp only [Act.put, List.setIfInBounds_toArray, List.set_cons_zero, List.set_cons_succ]
                  refine wpAnyH_take (i := 6) (oi := { dst := some 122, op := Op.nilCheck (Operand.tmp 119), type := 0, pos := "ref.go:132", after := #[{ on := 3, ground := Ground.data }], guard := none }) (v := ?_) rfl (by kernel_rfl) (by kernel_rfl) (by kernel_rfl) (fun _ _ _ h => h) (Or.inl ⟨by rfl, ?hy18⟩) hS0 ?_
                  case hy18 => (intro V hSw; (try dsimp only at hSw); have hcw := fun j => cell_of_blk hSw j; clear hSw; go_simp; try with_reducible rfl)
                  try simp only [Act.put, List.setIfInBounds_toArray, List.set_cons_zero, List.set_cons_succ]
                  refine wpAnyH_take (i := 7) (oi := { dst := some 123, op := Op.fieldAddr 61 (Operand.tmp 122) 0, type := 0, pos := "ref.go:132", after := #[{ on := 6, ground := Ground.data }], guard := none }) (v := ?_) rfl (by kernel_rfl) (by kernel_rfl) (by kernel_rfl) (fun _ _ _ h => h) (Or.inl ⟨by rfl, ?hy19⟩) hS0 ?_
                  case hy19 => (intro V hSw; (try dsimp only at hSw); have hcw := fun j => cell_of_blk hSw j; clear hSw; go_simp; try with_reducible rfl)
                  try simp only [Act.put, List.setIfInBounds_toArray, List.set_cons_zero, List.set_cons_succ]
                  refine wpAnyH_take (i := 8) (oi := { dst := some 124, op := Op.indexAddr 59 (Operand.tmp 123) (Operand.tmp 121), type := 0, pos := "ref.go:132", after := #[{ on := 7, ground := Ground.data }, { on := 5, ground := Ground.data }], guard := none }) (v := ?_) rfl (by kernel_rfl) (by kernel_rfl) (by kernel_rfl) (fun _ _ _ h => h) (Or.inl ⟨by rfl, ?hy20⟩) hS0 ?_
                  case hy20 => (intro V hSw; (try dsimp only at hSw); have hcw := fun j => cell_of_blk hSw j; clear hSw; go_simp; try with_reducible rfl)
                  try simp only [Act.put, List.setIfInBounds_toArray, List.set_cons_zero, List.set_cons_succ]
                  refine wpAnyH_take (i := 10) (oi := { dst := some 126, op := Op.move (Operand.tmp 15), type := 3, pos := "ref.go:132", after := #[], guard := none }) (v := ?_) rfl (by kernel_rfl) (by kernel_rfl) (by kernel_rfl) (fun _ _ _ h => h) (Or.inl ⟨by rfl, ?hy21⟩) hS0 ?_
                  case hy21 => (intro V hSw; (try dsimp only at hSw); have hcw := fun j => cell_of_blk hSw j; clear hSw; go_simp; try with_reducible rfl)
                  try simp only [Act.put, List.setIfInBounds_toArray, List.set_cons_zero, List.set_cons_succ]
                  refine wpAnyH_take (i := 11) (oi := { dst := some 127, op := Op.fieldAddr 89 (Operand.tmp 14) 1, type := 0, pos := "ref.go:132", after := #[], guard := none }) (v := ?_) rfl (by kernel_rfl) (by kernel_rfl) (by kernel_rfl) (fun _ _ _ h => h) (Or.inl ⟨by rfl, ?hy22⟩) hS0 ?_
                  case hy22 => (intro V hSw; (try dsimp only at hSw); have hcw := fun j => cell_of_blk hSw j; clear hSw; go_simp; try with_reducible rfl)
                  try simp only [Act.put, List.setIfInBounds_toArray, List.set_cons_zero, List.set_cons_succ]
                  refine wpAnyH_take (i := 12) (oi := { dst := some 128, op := Op.load 35 (Operand.tmp 127), type := 35, pos := "ref.go:132", after := #[{ on := 11, ground := Ground.data }], guard := none }) (v := ?_) rfl (by kernel_rfl) (by kernel_rfl) (by kernel_rfl) (fun _ _ _ h => h) (Or.inl ⟨by rfl, ?hy23⟩) hS0 ?_
                  case hy23 => (intro V hSw; (try dsimp only at hSw); have hcw := fun j => cell_of_blk hSw j; clear hSw; go_simp; try with_reducible rfl)
                  try simp only [Act.put, List.setIfInBounds_toArray, List.set_cons_zero, List.set_cons_succ]
                  refine wpAnyH_take (i := 14) (oi := { dst := some 130, op := Op.nilCheck (Operand.tmp 116), type := 0, pos := "ref.go:132", after := #[{ on := 0, ground := Ground.data }], guard := none }) (v := ?_) rfl (by kernel_rfl) (by kernel_rfl) (by kernel_rfl) (fun _ _ _ h => h) (Or.inl ⟨by rfl, ?hy24⟩) hS0 ?_
                  case hy24 => (intro V hSw; (try dsimp only at hSw); have hcw := fun j => cell_of_blk hSw j; clear hSw; go_simp; try with_reducible rfl)
                  try simp only [Act.put, List.setIfInBounds_toArray, List.set_cons_zero, List.set_cons_succ]
                  refine wpAnyH_take (i := 15) (oi := { dst := some 131, op := Op.fieldAddr 61 (Operand.tmp 130) 0, type := 0, pos := "ref.go:132", after := #[{ on := 14, ground := Ground.data }], guard := none }) (v := ?_) rfl (by kernel_rfl) (by kernel_rfl) (by kernel_rfl) (fun _ _ _ h => h) (Or.inl ⟨by rfl, ?hy25⟩) hS0 ?_
                  case hy25 => (intro V hSw; (try dsimp only at hSw); have hcw := fun j => cell_of_blk hSw j; clear hSw; go_simp; try with_reducible rfl)
                  try simp only [Act.put, List.setIfInBounds_toArray, List.set_cons_zero, List.set_cons_succ]
                  refine wpAnyH_ready (rs := [9]) (by kernel_rfl) (by simp) (AllReadyH.cons rfl (fun K hK => ?_) AllReadyH.nil)
                  have hl9 := (cell_of_blk hb0.out n).trans Hcl.out
                  go_simp
                  clear hl9
                  refine hK.out _ _ hS0 (fun _ => ?_)
                  clear hK K
                  try simp only [Act.put, List.setIfInBounds_toArray, List.set_cons_zero, List.set_cons_succ]
                  refine wpAnyH_ready (rs := [13]) (by kernel_rfl) (by simp) (AllReadyH.cons rfl (fun K hK => ?_) AllReadyH.nil)
                  go_simp
                  refine (Hwi.out _ K0.out).mono ?_
                  rintro e w3 ⟨v3, rfl, hm3, hv3⟩
                  have hq3 := (HqG.out.below K0.out).below hv3
                  have hS1 := blk_bels hv3 hS0
                  rw [wiP_all _ HIle.out] at hm3
                  have Hp3 := Lib.hid (hq3.put (M := 50000 + (j + 1)) hn4 hm3 (by omega) (by rw [len_ins HIle.out]; have := hq3.len n hn4; omega) (fun r hr => by rcases mem_ins hr with rfl | hr; (· exact Hgd.out); exact hq3.good n hn4 r hr))
                  have hpc := (cell_of_blk hq3.out n).trans Hcl.out
                  have hpz := frozen_of_blk hq3.out n
                  obtain ⟨ya, yc, rfl⟩ := isMr_slice hm3
                  have hS2 : (w3.setCell ⟨ob, n, none⟩ (.slice ya ((X.l n).take A ++ (⟨mz, mn, a, b2, refs⟩, .slice ra rn rc) :: (X.l n).drop A).length yc)).heap[pb]? = some (.cells #[.int .i64 n, .int .i64 mz, .int .i64 mn, .string a.u, .int .i64 a.s, .int .i64 a.k, .string b2.u, .int .i64 b2.s, .int .i64 b2.k, .slice ra rn rc] 89 (0, 0)) := (Below.heap_setCell _ ⟨ob, n, none⟩ _ _ (by show pb ≠ ob; omega)).trans hS1
                  generalize hLL : (X.l n).take A ++ (⟨mz, mn, a, b2, refs⟩, .slice ra rn rc) :: (X.l n).drop A = LL at *
                  have HLL := Lib.hid hLL
                  clear hq3 hm3 hv3 hLL
                  refine hK.out _ _ hS1 (fun _ => ?_)
                  clear hK K
                  try simp only [Act.put, List.setIfInBounds_toArray, List.set_cons_zero, List.set_cons_succ]
                  refine wpAnyH_take (i := 16) (oi := { dst := some 132, op := Op.indexAddr 59 (Operand.tmp 131) (Operand.tmp 118), type := 0, pos := "ref.go:132", after := #[{ on := 15, ground := Ground.data }, { on := 2, ground := Ground.data }, { on := 0, ground := Ground.phase }, { on := 1, ground := Ground.phase }, { on := 2, ground := Ground.phase }, { on := 3, ground := Ground.phase }, { on := 4, ground := Ground.phase }, { on := 5, ground := Ground.phase }, { on := 6, ground := Ground.phase }, { on := 7, ground := Ground.phase }, { on := 8, ground := Ground.phase }, { on := 9, ground := Ground.phase }, { on := 10, ground := Ground.phase }, { on := 11, ground := Ground.phase }, { on := 12, ground := Ground.phase }, { on := 13, ground := Ground.phase }], guard := none }) (v := ?_) rfl (by kernel_rfl) (by kernel_rfl) (by kernel_rfl) (fun _ _ _ h => h) (Or.inl ⟨by rfl, ?hy26⟩) hS1 ?_
                  case hy26 => (intro V hSw; (try dsimp only at hSw); have hcw := fun j => cell_of_blk hSw j; clear hSw; go_simp; try with_reducible rfl)
                  try simp only [Act.put, List.setIfInBounds_toArray, List.set_cons_zero, List.set_cons_succ]
                  refine wpAnyH_ready (rs := [17]) (by kernel_rfl) (by simp) (AllReadyH.cons rfl (fun K hK => ?_) AllReadyH.nil)
                  go_simp
                  refine hK.out _ _ hS2 (fun _ => ?_)
                  clear hK K
                  try simp only [Act.put, List.setIfInBounds_toArray, List.set_cons_zero, List.set_cons_succ]
                  refine wpAnyH_done (by kernel_rfl) ?_ _
                  clear hpc hpz
                  have Hadd2 : Hid (addsP (lvOf U.l) at0 (psM ps) (j + 1) = some (lvOf (X.upd n (.slice ya LL.length yc) LL).l)) := Lib.hid ((addsP_step Hadd.out Hpm.out).trans ((addP_some (p := ((n : Int), (⟨mz, mn, a, b2, refs⟩, .slice ra rn rc))) rfl hn4 HIat.out (.slice ya LL.length yc)).trans (by rw [HLL.out])))
                  have HA2 : Hid (A ≤ ((X.upd n (.slice ya LL.length yc) LL).l 0).length) := Lib.hid (by rw [← HLL.out]; exact upd_len0 HAX.out HIle.out)
                  generalize w3.setCell ⟨ob, n, none⟩ (.slice ya LL.length yc) = w4 at *
                  go_wp2_with fail
                  go_roundw
                  case rel => exact ⟨j + 1, by omega, by go_num, _, Hadd2.out, HA2.out, Hp3.out⟩
                  case measure => simp [intOf]; omega
                · have hgt : decide ((n : Int) > 0) = true := decide_eq_true (by omega)
                  have hgt2 : decide (0 < (n : Int)) = true := decide_eq_true (by omega)
                  have hgt3 : 0 < n := by omega
                  have hms : IsMr (wy.alloc (.cells #[.int .i64 n, .int .i64 mz, .int .i64 mn, .string a.u, .int .i64 a.s, .int .i64 a.k, .string b2.u, .int .i64 b2.s, .int .i64 b2.k, .slice ra rn rc] 89)) (.slice sa (X.l n).length sc) (X.l n) := by rw [← Hsv.out]; exact HqP.out.vn n hn4
                  obtain ⟨-, hxc1, hxc2, hxx⟩ := hms.1.at
                  have Hxx := Lib.hid hxx
                  obtain ⟨xn, hxn⟩ : ∃ xn, xn = (X.l n).length := ⟨_, rfl⟩
                  have hxn9 : xn ≤ 90000 := by have := HqP.out.len n hn4; omega
                  rw [← hxn] at hxc1
                  have Hxn := Lib.hid hxn
                  have Hgood := Lib.hid (fun r hr => HqP.out.good n hn4 r hr)
                  clear hxn hms hxx hn0
                  go_wp2_with fail
                  rw [← Hpb.out]
                  clear d0 d1 d2 d3 d4 d5 d6 d7 d8 d9 HbP
                  generalize wy.alloc (.cells #[.int .i64 n, .int .i64 mz, .int .i64 mn, .string a.u, .int .i64 a.s, .int .i64 a.k, .string b2.u, .int .i64 b2.s, .int .i64 b2.k, .slice ra rn rc] 89) = WP at *
                  go_loopw [15] (fun iv wr => ∃ i : Nat, i ≤ xn ∧ iv = .int .i64 i ∧ (∀ t y, t < i → (X.l n)[t]? = some y → cmpK y.1.a a < 0) ∧ Below WP.heap.size WP wr) (fun iv _ => xn - (intOf iv).toNat)
                  case atStart => exact ⟨0, Nat.zero_le _, rfl, fun t y ht => absurd ht (Nat.not_lt_zero _), Below.refl _ _⟩
                  case round =>
                    obtain ⟨wz, rfl⟩ : ∃ wz : World, wz = wr := ⟨_, rfl⟩
                    obtain ⟨i, hi, rfl, hlo, hbz⟩ := hrel
                    have Hlo := Lib.hid hlo
                    have Hbz := Lib.hid hbz
                    have HqW := Lib.hid (HqP.out.below hbz)
                    have HpW := Lib.hid (blk_bels hbz HpP.out)
                    have fo := cell_regrown ((cell_of_blk HqW.out.out n).trans (Hcl.out.trans (by rw [← Hxn.out])))
                    have p0 := cell_regrown ((cell_of_blk HpW.out 0).trans (show _ = some (.int .i64 n) from rfl))
                    have p3 := cell_regrown ((cell_of_blk HpW.out 3).trans (show _ = some (.string a.u) from rfl))
                    have p4 := cell_regrown ((cell_of_blk HpW.out 4).trans (show _ = some (.int .i64 a.s) from rfl))
                    have p5 := cell_regrown ((cell_of_blk HpW.out 5).trans (show _ = some (.int .i64 a.k) from rfl))
                    clear hlo hbz
                    by_cases hin : i < xn
                    · obtain ⟨xb, xo, rfl, hxcell⟩ := Hxx.out (by rw [← Hxn.out]; omega)
                      obtain ⟨x, hx⟩ : ∃ x, (X.l n)[i]? = some x := ⟨_, List.getElem?_eq_getElem (by rw [← Hxn.out]; exact hin)⟩
                      have b2' := hxcell i x hx 2 _ rfl
                      have b3' := hxcell i x hx 3 _ rfl
                      have b4' := hxcell i x hx 4 _ rfl
                      have f2 := cell_regrown ((Hbz.out.cell (block_lt_of_cell b2')).trans b2')
                      have f3 := cell_regrown ((Hbz.out.cell (block_lt_of_cell b3')).trans b3')
                      have f4 := cell_regrown ((Hbz.out.cell (block_lt_of_cell b4')).trans b4')
                      have hlx := Hgood.out x (List.mem_of_getElem? hx)
                      have Hx := Lib.hid hx
                      have hor : Hid (∀ (d : Nat) (os : Array Obj), Calls Try.prog 36 #[.agg #[.string x.1.a.u, .int .i64 x.1.a.s, .int .i64 x.1.a.k], .agg #[.string a.u, .int .i64 a.s, .int .i64 a.k]] (grow (redrawn wz d) os) fun e w'' => e = .returned (.int .i64 (cmpK x.1.a a)) ∧ ∃ p : Regrown, w'' = grow (redrawn wz p.d) p.os) := Lib.hid fun d os => Calls.regrown_of (cmp3_any x.1.a a hlx.2.1 Hgd.out.2.1 _)
                      clear hxcell hx b2' b3' b4' hlx
                      by_cases hlt : cmpK x.1.a a < 0
                      · have HL2 : Hid (∀ t y, t < i + 1 → (X.l n)[t]? = some y → cmpK y.1.a a < 0) := Lib.hid (fun t y ht hy => by
                          by_cases e : t = i
                          · subst e; rw [Hx.out] at hy; cases hy; exact hlt
                          · exact Hlo.out t y (by omega) hy)
                        generalize cmpK x.1.a a = cv2 at *
                        go_wp2_with fail
                        refine wp_region_quiet_below (by kernel_rfl) (by kernel_rfl) ?_
                        repeat (go_big_quiet_step (first | with_reducible exact hor.out _ _))
                        refine wpQuiet_nil ?_
                        intro _ hw'
                        obtain ⟨⟨dq, osq⟩, hw''⟩ := hw'
                        subst hw''
                        go_wp2
                        go_roundw
                        case rel => exact ⟨i + 1, by omega, by go_num, HL2.out, Hbz.out.trans ((below_regrown wz dq osq).mono Hbz.out.size)⟩
                        case measure => simp [intOf]; omega
                      · have HIle : Hid (i ≤ (X.l n).length) := Lib.hid (by rw [← Hxn.out]; omega)
                        have HIat := Lib.hid (addAt_pos (at0 := at0) (m := ⟨mz, mn, a, b2, refs⟩) hgt3 (insP_at Hx.out hlt Hlo.out))
                        generalize cmpK x.1.a a = cv2 at *
                        have hge : 0 ≤ cv2 := by omega
                        go_wp2_with fail
                        refine wp_region_quiet_below (by kernel_rfl) (by kernel_rfl) ?_
                        repeat (go_big_quiet_step (first | with_reducible exact hor.out _ _))
                        refine wpQuiet_nil ?_
                        intro _ hw'
                        obtain ⟨⟨dq, osq⟩, hw''⟩ := hw'
                        subst hw''
                        clear hor f2 f3 f4 fo p0 p3 p4 p5
                        go_wp2_with fail
                        have HqG := Lib.hid (HqW.out.below (below_regrown wz dq osq))
                        have HpG := Lib.hid (blk_bels (below_regrown wz dq osq) HpW.out)
                        clear HqW HpW HqP HpP
                        generalize grow (redrawn wz dq) osq = Wg at *
                        have Hwi := Lib.hid (fun (W2 : World) (hW : Below Wg.heap.size Wg W2) => with_any (X.v n) (X.l n) (i : Nat) (⟨mz, mn, a, b2, refs⟩, .slice ra rn rc) W2 ((HqG.out.vn n hn4).below hW) ((Hrp.out _ HqG.out.bel).below hW) (by have := HqG.out.len n hn4; omega))
                        rw [Hsv.out] at Hwi
                        unfold mrC at Hwi
                        dsimp only at Hwi
                        have K0 := Lib.hid ((Below.refl Wg.heap.size Wg).drew)
                        have hb0 := Lib.hid (blk_bels K0.out HqG.out.out)
                        have hS0 := blk_bels K0.out HpG.out
                        refine wp_region_held_drew (S := fun V => V.heap[pb]? = some (.cells #[.int .i64 n, .int .i64 mz, .int .i64 mn, .string a.u, .int .i64 a.s, .int .i64 a.k, .string b2.u, .int .i64 b2.s, .int .i64 b2.k, .slice ra rn rc] 89 (0, 0))) (by kernel_rfl) hS0 (fun hS0 => ?_)
                        refine wpAnyH_take (i := 0) (oi := { dst := some 116, op := Op.move (Operand.tmp 8), type := 49, pos := "ref.go:132", after := #[], guard := none }) (v := ?_) rfl (by kernel_rfl) (by kernel_rfl) (by kernel_rfl) (fun _ _ _ h => h) (Or.inl ⟨by rfl, ?hy27⟩) hS0 ?_
                        case hy27 => (intro V hSw; (try dsimp only at hSw); have hcw := fun j => cell_of_blk hSw j; clear hSw; go_simp; try with_reducible rfl)
                        try simp only [Act.put, List.setIfInBounds_toArray, List.set_cons_zero, List.set_cons_succ]
                        refine wpAnyH_take (i := 1) (oi := { dst := some 117, op := Op.fieldAddr 89 (Operand.tmp 14) 0, type := 0, pos := "ref.go:132", after := #[], guard := none }) (v := ?_) rfl (by kernel_rfl) (by kernel_rfl) (by kernel_rfl) (fun _ _ _ h => h) (Or.inl ⟨by rfl, ?hy28⟩) hS0 ?_
                        case hy28 => (intro V hSw; (try dsimp only at hSw); have hcw := fun j => cell_of_blk hSw j; clear hSw; go_simp; try with_reducible rfl)
                        try simp only [Act.put, List.setIfInBounds_toArray, List.set_cons_zero, List.set_cons_succ]
                        refine wpAnyH_take (i := 2) (oi := { dst := some 118, op := Op.load 3 (Operand.tmp 117), type := 3, pos := "ref.go:132", after := #[{ on := 1, ground := Ground.data }], guard := none }) (v := ?_) rfl (by kernel_rfl) (by kernel_rfl) (by kernel_rfl) (fun _ _ _ h => h) (Or.inl ⟨by rfl, ?hy29⟩) hS0 ?_
                        case hy29 => (intro V hSw; (try dsimp only at hSw); have hcw := fun j => cell_of_blk hSw j; clear hSw; go_simp; try with_reducible rfl)
                        try simp only [Act.put, List.setIfInBounds_toArray, List.set_cons_zero, List.set_cons_succ]
                        refine wpAnyH_take (i := 3) (oi := { dst := some 119, op := Op.move (Operand.tmp 8), type := 49, pos := "ref.go:132", after := #[], guard := none }) (v := ?_) rfl (by kernel_rfl) (by kernel_rfl) (by kernel_rfl) (fun _ _ _ h => h) (Or.inl ⟨by rfl, ?hy30⟩) hS0 ?_
                        case hy30 => (intro V hSw; (try dsimp only at hSw); have hcw := fun j => cell_of_blk hSw j; clear hSw; go_simp; try with_reducible rfl)
                        try simp only [Act.put, List.setIfInBounds_toArray, List.set_cons_zero, List.set_cons_succ]
                        refine wpAnyH_take (i := 4) (oi := { dst := some 120, op := Op.fieldAddr 89 (Operand.tmp 14) 0, type := 0, pos := "ref.go:132", after := #[], guard := none }) (v := ?_) rfl (by kernel_rfl) (by kernel_rfl) (by kernel_rfl) (fun _ _ _ h => h) (Or.inl ⟨by rfl, ?hy31⟩) hS0 ?_
                        case hy31 => (intro V hSw; (try dsimp only at hSw); have hcw := fun j => cell_of_blk hSw j; clear hSw; go_simp; try with_reducible rfl)
                        try simp only [Act.put, List.setIfInBounds_toArray, List.set_cons_zero, List.set_cons_succ]
                        refine wpAnyH_take (i := 5) (oi := { dst := some 121, op := Op.load 3 (Operand.tmp 120), type := 3, pos := "ref.go:132", after := #[{ on := 4, ground := Ground.data }], guard := none }) (v := ?_) rfl (by kernel_rfl) (by kernel_rfl) (by kernel_rfl) (fun _ _ _ h => h) (Or.inl ⟨by rfl, ?hy32⟩) hS0 ?_
                        case hy32 => (intro V hSw; (try dsimp only at hSw); have hcw := fun j => cell_of_blk hSw j; clear hSw; go_simp; try with_reducible rfl)
                        try simp only [Act.put, List.setIfInBounds_toArray, List.set_cons_zero, List.set_cons_succ]
                        refine wpAnyH_take (i := 6) (oi := { dst := some 122, op := Op.nilCheck (Operand.tmp 119), type := 0, pos := "ref.go:132", after := #[{ on := 3, ground := Ground.data }], guard := none }) (v := ?_) rfl (by kernel_rfl) (by kernel_rfl) (by kernel_rfl) (fun _ _ _ h => h) (Or.inl ⟨by rfl, ?hy33⟩) hS0 ?_
                        case hy33 => (intro V hSw; (try dsimp only at hSw); have hcw := fun j => cell_of_blk hSw j; clear hSw; go_simp; try with_reducible rfl)
                        try simp only [Act.put, List.setIfInBounds_toArray, List.set_cons_zero, List.set_cons_succ]
                        refine wpAnyH_take (i := 7) (oi := { dst := some 123, op := Op.fieldAddr 61 (Operand.tmp 122) 0, type := 0, pos := "ref.go:132", after := #[{ on := 6, ground := Ground.data }], guard := none }) (v := ?_) rfl (by kernel_rfl) (by kernel_rfl) (by kernel_rfl) (fun _ _ _ h => h) (Or.inl ⟨by rfl, ?hy34⟩) hS0 ?_
                        case hy34 => (intro V hSw; (try dsimp only at hSw); have hcw := fun j => cell_of_blk hSw j; clear hSw; go_simp; try with_reducible rfl)
                        try simp only [Act.put, List.setIfInBounds_toArray, List.set_cons_zero, List.set_cons_succ]
                        refine wpAnyH_take (i := 8) (oi := { dst := some 124, op := Op.indexAddr 59 (Operand.tmp 123) (Operand.tmp 121), type := 0, pos := "ref.go:132", after := #[{ on := 7, ground := Ground.data }, { on := 5, ground := Ground.data }], guard := none }) (v := ?_) rfl (by kernel_rfl) (by kernel_rfl) (by kernel_rfl) (fun _ _ _ h => h) (Or.inl ⟨by rfl, ?hy35⟩) hS0 ?_
                        case hy35 => (intro V hSw; (try dsimp only at hSw); have hcw := fun j => cell_of_blk hSw j; clear hSw; go_simp; try with_reducible rfl)
                        try simp only [Act.put, List.setIfInBounds_toArray, List.set_cons_zero, List.set_cons_succ]
                        refine wpAnyH_take (i := 10) (oi := { dst := some 126, op := Op.move (Operand.tmp 15), type := 3, pos := "ref.go:132", after := #[], guard := none }) (v := ?_) rfl (by kernel_rfl) (by kernel_rfl) (by kernel_rfl) (fun _ _ _ h => h) (Or.inl ⟨by rfl, ?hy36⟩) hS0 ?_
                        case hy36 => (intro V hSw; (try dsimp only at hSw); have hcw := fun j => cell_of_blk hSw j; clear hSw; go_simp; try with_reducible rfl)
                        try simp only [Act.put, List.setIfInBounds_toArray, List.set_cons_zero, List.set_cons_succ]
                        refine wpAnyH_take (i := 11) (oi := { dst := some 127, op := Op.fieldAddr 89 (Operand.tmp 14) 1, type := 0, pos := "ref.go:132", after := #[], guard := none }) (v := ?_) rfl (by kernel_rfl) (by kernel_rfl) (by kernel_rfl) (fun _ _ _ h => h) (Or.inl ⟨by rfl, ?hy37⟩) hS0 ?_
                        case hy37 => (intro V hSw; (try dsimp only at hSw); have hcw := fun j => cell_of_blk hSw j; clear hSw; go_simp; try with_reducible rfl)
                        try simp only [Act.put, List.setIfInBounds_toArray, List.set_cons_zero, List.set_cons_succ]
                        refine wpAnyH_take (i := 12) (oi := { dst := some 128, op := Op.load 35 (Operand.tmp 127), type := 35, pos := "ref.go:132", after := #[{ on := 11, ground := Ground.data }], guard := none }) (v := ?_) rfl (by kernel_rfl) (by kernel_rfl) (by kernel_rfl) (fun _ _ _ h => h) (Or.inl ⟨by rfl, ?hy38⟩) hS0 ?_
                        case hy38 => (intro V hSw; (try dsimp only at hSw); have hcw := fun j => cell_of_blk hSw j; clear hSw; go_simp; try with_reducible rfl)
                        try simp only [Act.put, List.setIfInBounds_toArray, List.set_cons_zero, List.set_cons_succ]
                        refine wpAnyH_take (i := 14) (oi := { dst := some 130, op := Op.nilCheck (Operand.tmp 116), type := 0, pos := "ref.go:132", after := #[{ on := 0, ground := Ground.data }], guard := none }) (v := ?_) rfl (by kernel_rfl) (by kernel_rfl) (by kernel_rfl) (fun _ _ _ h => h) (Or.inl ⟨by rfl, ?hy39⟩) hS0 ?_
                        case hy39 => (intro V hSw; (try dsimp only at hSw); have hcw := fun j => cell_of_blk hSw j; clear hSw; go_simp; try with_reducible rfl)
                        try simp only [Act.put, List.setIfInBounds_toArray, List.set_cons_zero, List.set_cons_succ]
                        refine wpAnyH_take (i := 15) (oi := { dst := some 131, op := Op.fieldAddr 61 (Operand.tmp 130) 0, type := 0, pos := "ref.go:132", after := #[{ on := 14, ground := Ground.data }], guard := none }) (v := ?_) rfl (by kernel_rfl) (by kernel_rfl) (by kernel_rfl) (fun _ _ _ h => h) (Or.inl ⟨by rfl, ?hy40⟩) hS0 ?_
                        case hy40 => (intro V hSw; (try dsimp only at hSw); have hcw := fun j => cell_of_blk hSw j; clear hSw; go_simp; try with_reducible rfl)
                        try simp only [Act.put, List.setIfInBounds_toArray, List.set_cons_zero, List.set_cons_succ]
                        refine wpAnyH_ready (rs := [9]) (by kernel_rfl) (by simp) (AllReadyH.cons rfl (fun K hK => ?_) AllReadyH.nil)
                        have hl9 := (cell_of_blk hb0.out n).trans Hcl.out
                        go_simp
                        clear hl9
                        refine hK.out _ _ hS0 (fun _ => ?_)
                        clear hK K
                        try simp only [Act.put, List.setIfInBounds_toArray, List.set_cons_zero, List.set_cons_succ]
                        refine wpAnyH_ready (rs := [13]) (by kernel_rfl) (by simp) (AllReadyH.cons rfl (fun K hK => ?_) AllReadyH.nil)
                        go_simp
                        refine (Hwi.out _ K0.out).mono ?_
                        rintro e w3 ⟨v3, rfl, hm3, hv3⟩
                        have hq3 := (HqG.out.below K0.out).below hv3
                        have hS1 := blk_bels hv3 hS0
                        rw [wiP_all _ HIle.out] at hm3
                        have Hp3 := Lib.hid (hq3.put (M := 50000 + (j + 1)) hn4 hm3 (by omega) (by rw [len_ins HIle.out]; have := hq3.len n hn4; omega) (fun r hr => by rcases mem_ins hr with rfl | hr; (· exact Hgd.out); exact hq3.good n hn4 r hr))
                        have hpc := (cell_of_blk hq3.out n).trans Hcl.out
                        have hpz := frozen_of_blk hq3.out n
                        obtain ⟨ya, yc, rfl⟩ := isMr_slice hm3
                        have hS2 : (w3.setCell ⟨ob, n, none⟩ (.slice ya ((X.l n).take i ++ (⟨mz, mn, a, b2, refs⟩, .slice ra rn rc) :: (X.l n).drop i).length yc)).heap[pb]? = some (.cells #[.int .i64 n, .int .i64 mz, .int .i64 mn, .string a.u, .int .i64 a.s, .int .i64 a.k, .string b2.u, .int .i64 b2.s, .int .i64 b2.k, .slice ra rn rc] 89 (0, 0)) := (Below.heap_setCell _ ⟨ob, n, none⟩ _ _ (by show pb ≠ ob; omega)).trans hS1
                        generalize hLL : (X.l n).take i ++ (⟨mz, mn, a, b2, refs⟩, .slice ra rn rc) :: (X.l n).drop i = LL at *
                        have HLL := Lib.hid hLL
                        clear hq3 hm3 hv3 hLL
                        refine hK.out _ _ hS1 (fun _ => ?_)
                        clear hK K
                        try simp only [Act.put, List.setIfInBounds_toArray, List.set_cons_zero, List.set_cons_succ]
                        refine wpAnyH_take (i := 16) (oi := { dst := some 132, op := Op.indexAddr 59 (Operand.tmp 131) (Operand.tmp 118), type := 0, pos := "ref.go:132", after := #[{ on := 15, ground := Ground.data }, { on := 2, ground := Ground.data }, { on := 0, ground := Ground.phase }, { on := 1, ground := Ground.phase }, { on := 2, ground := Ground.phase }, { on := 3, ground := Ground.phase }, { on := 4, ground := Ground.phase }, { on := 5, ground := Ground.phase }, { on := 6, ground := Ground.phase }, { on := 7, ground := Ground.phase }, { on := 8, ground := Ground.phase }, { on := 9, ground := Ground.phase }, { on := 10, ground := Ground.phase }, { on := 11, ground := Ground.phase }, { on := 12, ground := Ground.phase }, { on := 13, ground := Ground.phase }], guard := none }) (v := ?_) rfl (by kernel_rfl) (by kernel_rfl) (by kernel_rfl) (fun _ _ _ h => h) (Or.inl ⟨by rfl, ?hy41⟩) hS1 ?_
                        case hy41 => (intro V hSw; (try dsimp only at hSw); have hcw := fun j => cell_of_blk hSw j; clear hSw; go_simp; try with_reducible rfl)
                        try simp only [Act.put, List.setIfInBounds_toArray, List.set_cons_zero, List.set_cons_succ]
                        refine wpAnyH_ready (rs := [17]) (by kernel_rfl) (by simp) (AllReadyH.cons rfl (fun K hK => ?_) AllReadyH.nil)
                        go_simp
                        refine hK.out _ _ hS2 (fun _ => ?_)
                        clear hK K
                        try simp only [Act.put, List.setIfInBounds_toArray, List.set_cons_zero, List.set_cons_succ]
                        refine wpAnyH_done (by kernel_rfl) ?_ _
                        clear hpc hpz
                        have Hadd2 : Hid (addsP (lvOf U.l) at0 (psM ps) (j + 1) = some (lvOf (X.upd n (.slice ya LL.length yc) LL).l)) := Lib.hid ((addsP_step Hadd.out Hpm.out).trans ((addP_some (p := ((n : Int), (⟨mz, mn, a, b2, refs⟩, .slice ra rn rc))) rfl hn4 HIat.out (.slice ya LL.length yc)).trans (by rw [HLL.out])))
                        have HA2 : Hid (A ≤ ((X.upd n (.slice ya LL.length yc) LL).l 0).length) := Lib.hid (by rw [← HLL.out]; exact upd_len0 HAX.out HIle.out)
                        generalize w3.setCell ⟨ob, n, none⟩ (.slice ya LL.length yc) = w4 at *
                        go_wp2_with fail
                        go_roundw
                        case rel => exact ⟨j + 1, by omega, by go_num, _, Hadd2.out, HA2.out, Hp3.out⟩
                        case measure => simp [intOf]; omega
                    · obtain rfl : i = xn := by omega
                      have HIle : Hid (i ≤ (X.l n).length) := Lib.hid (by rw [← Hxn.out]; omega)
                      have HIat := Lib.hid (addAt_pos (at0 := at0) (m := ⟨mz, mn, a, b2, refs⟩) hgt3 ((insP_end (fun t y ht hy => Hlo.out t y (by rw [Hxn.out]; exact ht) hy)).trans Hxn.out.symm))
                      go_wp2_with fail
                      refine wp_region_quiet_below (by kernel_rfl) (by kernel_rfl) ?_
                      repeat (go_big_quiet_step (first | fail))
                      refine wpQuiet_nil ?_
                      intro _ hw'
                      obtain ⟨⟨dq, osq⟩, hw''⟩ := hw'
                      subst hw''
                      clear fo p0 p3 p4 p5
                      go_wp2_with fail
                      have HqG := Lib.hid (HqW.out.below (below_regrown wz dq osq))
                      have HpG := Lib.hid (blk_bels (below_regrown wz dq osq) HpW.out)
                      clear HqW HpW HqP HpP
                      generalize grow (redrawn wz dq) osq = Wg at *
                      have Hwi := Lib.hid (fun (W2 : World) (hW : Below Wg.heap.size Wg W2) => with_any (X.v n) (X.l n) (i : Nat) (⟨mz, mn, a, b2, refs⟩, .slice ra rn rc) W2 ((HqG.out.vn n hn4).below hW) ((Hrp.out _ HqG.out.bel).below hW) (by have := HqG.out.len n hn4; omega))
                      rw [Hsv.out] at Hwi
                      unfold mrC at Hwi
                      dsimp only at Hwi
                      have K0 := Lib.hid ((Below.refl Wg.heap.size Wg).drew)
                      have hb0 := Lib.hid (blk_bels K0.out HqG.out.out)
                      have hS0 := blk_bels K0.out HpG.out
                      refine wp_region_held_drew (S := fun V => V.heap[pb]? = some (.cells #[.int .i64 n, .int .i64 mz, .int .i64 mn, .string a.u, .int .i64 a.s, .int .i64 a.k, .string b2.u, .int .i64 b2.s, .int .i64 b2.k, .slice ra rn rc] 89 (0, 0))) (by kernel_rfl) hS0 (fun hS0 => ?_)
                      refine wpAnyH_take (i := 0) (oi := { dst := some 116, op := Op.move (Operand.tmp 8), type := 49, pos := "ref.go:132", after := #[], guard := none }) (v := ?_) rfl (by kernel_rfl) (by kernel_rfl) (by kernel_rfl) (fun _ _ _ h => h) (Or.inl ⟨by rfl, ?hy42⟩) hS0 ?_
                      case hy42 => (intro V hSw; (try dsimp only at hSw); have hcw := fun j => cell_of_blk hSw j; clear hSw; go_simp; try with_reducible rfl)
                      try simp only [Act.put, List.setIfInBounds_toArray, List.set_cons_zero, List.set_cons_succ]
                      refine wpAnyH_take (i := 1) (oi := { dst := some 117, op := Op.fieldAddr 89 (Operand.tmp 14) 0, type := 0, pos := "ref.go:132", after := #[], guard := none }) (v := ?_) rfl (by kernel_rfl) (by kernel_rfl) (by kernel_rfl) (fun _ _ _ h => h) (Or.inl ⟨by rfl, ?hy43⟩) hS0 ?_
                      case hy43 => (intro V hSw; (try dsimp only at hSw); have hcw := fun j => cell_of_blk hSw j; clear hSw; go_simp; try with_reducible rfl)
                      try simp only [Act.put, List.setIfInBounds_toArray, List.set_cons_zero, List.set_cons_succ]
                      refine wpAnyH_take (i := 2) (oi := { dst := some 118, op := Op.load 3 (Operand.tmp 117), type := 3, pos := "ref.go:132", after := #[{ on := 1, ground := Ground.data }], guard := none }) (v := ?_) rfl (by kernel_rfl) (by kernel_rfl) (by kernel_rfl) (fun _ _ _ h => h) (Or.inl ⟨by rfl, ?hy44⟩) hS0 ?_
                      case hy44 => (intro V hSw; (try dsimp only at hSw); have hcw := fun j => cell_of_blk hSw j; clear hSw; go_simp; try with_reducible rfl)
                      try simp only [Act.put, List.setIfInBounds_toArray, List.set_cons_zero, List.set_cons_succ]
                      refine wpAnyH_take (i := 3) (oi := { dst := some 119, op := Op.move (Operand.tmp 8), type := 49, pos := "ref.go:132", after := #[], guard := none }) (v := ?_) rfl (by kernel_rfl) (by kernel_rfl) (by kernel_rfl) (fun _ _ _ h => h) (Or.inl ⟨by rfl, ?hy45⟩) hS0 ?_
                      case hy45 => (intro V hSw; (try dsimp only at hSw); have hcw := fun j => cell_of_blk hSw j; clear hSw; go_simp; try with_reducible rfl)
                      try simp only [Act.put, List.setIfInBounds_toArray, List.set_cons_zero, List.set_cons_succ]
                      refine wpAnyH_take (i := 4) (oi := { dst := some 120, op := Op.fieldAddr 89 (Operand.tmp 14) 0, type := 0, pos := "ref.go:132", after := #[], guard := none }) (v := ?_) rfl (by kernel_rfl) (by kernel_rfl) (by kernel_rfl) (fun _ _ _ h => h) (Or.inl ⟨by rfl, ?hy46⟩) hS0 ?_
                      case hy46 => (intro V hSw; (try dsimp only at hSw); have hcw := fun j => cell_of_blk hSw j; clear hSw; go_simp; try with_reducible rfl)
                      try simp only [Act.put, List.setIfInBounds_toArray, List.set_cons_zero, List.set_cons_succ]
                      refine wpAnyH_take (i := 5) (oi := { dst := some 121, op := Op.load 3 (Operand.tmp 120), type := 3, pos := "ref.go:132", after := #[{ on := 4, ground := Ground.data }], guard := none }) (v := ?_) rfl (by kernel_rfl) (by kernel_rfl) (by kernel_rfl) (fun _ _ _ h => h) (Or.inl ⟨by rfl, ?hy47⟩) hS0 ?_
                      case hy47 => (intro V hSw; (try dsimp only at hSw); have hcw := fun j => cell_of_blk hSw j; clear hSw; go_simp; try with_reducible rfl)
                      try simp only [Act.put, List.setIfInBounds_toArray, List.set_cons_zero, List.set_cons_succ]
                      refine wpAnyH_take (i := 6) (oi := { dst := some 122, op := Op.nilCheck (Operand.tmp 119), type := 0, pos := "ref.go:132", after := #[{ on := 3, ground := Ground.data }], guard := none }) (v := ?_) rfl (by kernel_rfl) (by kernel_rfl) (by kernel_rfl) (fun _ _ _ h => h) (Or.inl ⟨by rfl, ?hy48⟩) hS0 ?_
                      case hy48 => (intro V hSw; (try dsimp only at hSw); have hcw := fun j => cell_of_blk hSw j; clear hSw; go_simp; try with_reducible rfl)
                      try simp only [Act.put, List.setIfInBounds_toArray, List.set_cons_zero, List.set_cons_succ]
                      refine wpAnyH_take (i := 7) (oi := { dst := some 123, op := Op.fieldAddr 61 (Operand.tmp 122) 0, type := 0, pos := "ref.go:132", after := #[{ on := 6, ground := Ground.data }], guard := none }) (v := ?_) rfl (by kernel_rfl) (by kernel_rfl) (by kernel_rfl) (fun _ _ _ h => h) (Or.inl ⟨by rfl, ?hy49⟩) hS0 ?_
                      case hy49 => (intro V hSw; (try dsimp only at hSw); have hcw := fun j => cell_of_blk hSw j; clear hSw; go_simp; try with_reducible rfl)
                      try simp only [Act.put, List.setIfInBounds_toArray, List.set_cons_zero, List.set_cons_succ]
                      refine wpAnyH_take (i := 8) (oi := { dst := some 124, op := Op.indexAddr 59 (Operand.tmp 123) (Operand.tmp 121), type := 0, pos := "ref.go:132", after := #[{ on := 7, ground := Ground.data }, { on := 5, ground := Ground.data }], guard := none }) (v := ?_) rfl (by kernel_rfl) (by kernel_rfl) (by kernel_rfl) (fun _ _ _ h => h) (Or.inl ⟨by rfl, ?hy50⟩) hS0 ?_
                      case hy50 => (intro V hSw; (try dsimp only at hSw); have hcw := fun j => cell_of_blk hSw j; clear hSw; go_simp; try with_reducible rfl)
                      try simp only [Act.put, List.setIfInBounds_toArray, List.set_cons_zero, List.set_cons_succ]
                      refine wpAnyH_take (i := 10) (oi := { dst := some 126, op := Op.move (Operand.tmp 15), type := 3, pos := "ref.go:132", after := #[], guard := none }) (v := ?_) rfl (by kernel_rfl) (by kernel_rfl) (by kernel_rfl) (fun _ _ _ h => h) (Or.inl ⟨by rfl, ?hy51⟩) hS0 ?_
                      case hy51 => (intro V hSw; (try dsimp only at hSw); have hcw := fun j => cell_of_blk hSw j; clear hSw; go_simp; try with_reducible rfl)
                      try simp only [Act.put, List.setIfInBounds_toArray, List.set_cons_zero, List.set_cons_succ]
                      refine wpAnyH_take (i := 11) (oi := { dst := some 127, op := Op.fieldAddr 89 (Operand.tmp 14) 1, type := 0, pos := "ref.go:132", after := #[], guard := none }) (v := ?_) rfl (by kernel_rfl) (by kernel_rfl) (by kernel_rfl) (fun _ _ _ h => h) (Or.inl ⟨by rfl, ?hy52⟩) hS0 ?_
                      case hy52 => (intro V hSw; (try dsimp only at hSw); have hcw := fun j => cell_of_blk hSw j; clear hSw; go_simp; try with_reducible rfl)
                      try simp only [Act.put, List.setIfInBounds_toArray, List.set_cons_zero, List.set_cons_succ]
                      refine wpAnyH_take (i := 12) (oi := { dst := some 128, op := Op.load 35 (Operand.tmp 127), type := 35, pos := "ref.go:132", after := #[{ on := 11, ground := Ground.data }], guard := none }) (v := ?_) rfl (by kernel_rfl) (by kernel_rfl) (by kernel_rfl) (fun _ _ _ h => h) (Or.inl ⟨by rfl, ?hy53⟩) hS0 ?_
                      case hy53 => (intro V hSw; (try dsimp only at hSw); have hcw := fun j => cell_of_blk hSw j; clear hSw; go_simp; try with_reducible rfl)
                      try simp only [Act.put, List.setIfInBounds_toArray, List.set_cons_zero, List.set_cons_succ]
                      refine wpAnyH_take (i := 14) (oi := { dst := some 130, op := Op.nilCheck (Operand.tmp 116), type := 0, pos := "ref.go:132", after := #[{ on := 0, ground := Ground.data }], guard := none }) (v := ?_) rfl (by kernel_rfl) (by kernel_rfl) (by kernel_rfl) (fun _ _ _ h => h) (Or.inl ⟨by rfl, ?hy54⟩) hS0 ?_
                      case hy54 => (intro V hSw; (try dsimp only at hSw); have hcw := fun j => cell_of_blk hSw j; clear hSw; go_simp; try with_reducible rfl)
                      try simp only [Act.put, List.setIfInBounds_toArray, List.set_cons_zero, List.set_cons_succ]
                      refine wpAnyH_take (i := 15) (oi := { dst := some 131, op := Op.fieldAddr 61 (Operand.tmp 130) 0, type := 0, pos := "ref.go:132", after := #[{ on := 14, ground := Ground.data }], guard := none }) (v := ?_) rfl (by kernel_rfl) (by kernel_rfl) (by kernel_rfl) (fun _ _ _ h => h) (Or.inl ⟨by rfl, ?hy55⟩) hS0 ?_
                      case hy55 => (intro V hSw; (try dsimp only at hSw); have hcw := fun j => cell_of_blk hSw j; clear hSw; go_simp; try with_reducible rfl)
                      try simp only [Act.put, List.setIfInBounds_toArray, List.set_cons_zero, List.set_cons_succ]
                      refine wpAnyH_ready (rs := [9]) (by kernel_rfl) (by simp) (AllReadyH.cons rfl (fun K hK => ?_) AllReadyH.nil)
                      have hl9 := (cell_of_blk hb0.out n).trans Hcl.out
                      go_simp
                      clear hl9
                      refine hK.out _ _ hS0 (fun _ => ?_)
                      clear hK K
                      try simp only [Act.put, List.setIfInBounds_toArray, List.set_cons_zero, List.set_cons_succ]
                      refine wpAnyH_ready (rs := [13]) (by kernel_rfl) (by simp) (AllReadyH.cons rfl (fun K hK => ?_) AllReadyH.nil)
                      go_simp
                      refine (Hwi.out _ K0.out).mono ?_
                      rintro e w3 ⟨v3, rfl, hm3, hv3⟩
                      have hq3 := (HqG.out.below K0.out).below hv3
                      have hS1 := blk_bels hv3 hS0
                      rw [wiP_all _ HIle.out] at hm3
                      have Hp3 := Lib.hid (hq3.put (M := 50000 + (j + 1)) hn4 hm3 (by omega) (by rw [len_ins HIle.out]; have := hq3.len n hn4; omega) (fun r hr => by rcases mem_ins hr with rfl | hr; (· exact Hgd.out); exact hq3.good n hn4 r hr))
                      have hpc := (cell_of_blk hq3.out n).trans Hcl.out
                      have hpz := frozen_of_blk hq3.out n
                      obtain ⟨ya, yc, rfl⟩ := isMr_slice hm3
                      have hS2 : (w3.setCell ⟨ob, n, none⟩ (.slice ya ((X.l n).take i ++ (⟨mz, mn, a, b2, refs⟩, .slice ra rn rc) :: (X.l n).drop i).length yc)).heap[pb]? = some (.cells #[.int .i64 n, .int .i64 mz, .int .i64 mn, .string a.u, .int .i64 a.s, .int .i64 a.k, .string b2.u, .int .i64 b2.s, .int .i64 b2.k, .slice ra rn rc] 89 (0, 0)) := (Below.heap_setCell _ ⟨ob, n, none⟩ _ _ (by show pb ≠ ob; omega)).trans hS1
                      generalize hLL : (X.l n).take i ++ (⟨mz, mn, a, b2, refs⟩, .slice ra rn rc) :: (X.l n).drop i = LL at *
                      have HLL := Lib.hid hLL
                      clear hq3 hm3 hv3 hLL
                      refine hK.out _ _ hS1 (fun _ => ?_)
                      clear hK K
                      try simp only [Act.put, List.setIfInBounds_toArray, List.set_cons_zero, List.set_cons_succ]
                      refine wpAnyH_take (i := 16) (oi := { dst := some 132, op := Op.indexAddr 59 (Operand.tmp 131) (Operand.tmp 118), type := 0, pos := "ref.go:132", after := #[{ on := 15, ground := Ground.data }, { on := 2, ground := Ground.data }, { on := 0, ground := Ground.phase }, { on := 1, ground := Ground.phase }, { on := 2, ground := Ground.phase }, { on := 3, ground := Ground.phase }, { on := 4, ground := Ground.phase }, { on := 5, ground := Ground.phase }, { on := 6, ground := Ground.phase }, { on := 7, ground := Ground.phase }, { on := 8, ground := Ground.phase }, { on := 9, ground := Ground.phase }, { on := 10, ground := Ground.phase }, { on := 11, ground := Ground.phase }, { on := 12, ground := Ground.phase }, { on := 13, ground := Ground.phase }], guard := none }) (v := ?_) rfl (by kernel_rfl) (by kernel_rfl) (by kernel_rfl) (fun _ _ _ h => h) (Or.inl ⟨by rfl, ?hy56⟩) hS1 ?_
                      case hy56 => (intro V hSw; (try dsimp only at hSw); have hcw := fun j => cell_of_blk hSw j; clear hSw; go_simp; try with_reducible rfl)
                      try simp only [Act.put, List.setIfInBounds_toArray, List.set_cons_zero, List.set_cons_succ]
                      refine wpAnyH_ready (rs := [17]) (by kernel_rfl) (by simp) (AllReadyH.cons rfl (fun K hK => ?_) AllReadyH.nil)
                      go_simp
                      refine hK.out _ _ hS2 (fun _ => ?_)
                      clear hK K
                      try simp only [Act.put, List.setIfInBounds_toArray, List.set_cons_zero, List.set_cons_succ]
                      refine wpAnyH_done (by kernel_rfl) ?_ _
                      clear hpc hpz
                      have Hadd2 : Hid (addsP (lvOf U.l) at0 (psM ps) (j + 1) = some (lvOf (X.upd n (.slice ya LL.length yc) LL).l)) := Lib.hid ((addsP_step Hadd.out Hpm.out).trans ((addP_some (p := ((n : Int), (⟨mz, mn, a, b2, refs⟩, .slice ra rn rc))) rfl hn4 HIat.out (.slice ya LL.length yc)).trans (by rw [HLL.out])))
                      have HA2 : Hid (A ≤ ((X.upd n (.slice ya LL.length yc) LL).l 0).length) := Lib.hid (by rw [← HLL.out]; exact upd_len0 HAX.out HIle.out)
                      generalize w3.setCell ⟨ob, n, none⟩ (.slice ya LL.length yc) = w4 at *
                      go_wp2_with fail
                      go_roundw
                      case rel => exact ⟨j + 1, by omega, by go_num, _, Hadd2.out, HA2.out, Hp3.out⟩
                      case measure => simp [intOf]; omega
          · obtain rfl : j = na := by omega
            have Hend := Lib.hid (apply_end Hdz.out (by rw [show (psM ps).length = j by unfold psM; rw [List.length_map, ← Hna.out]]; exact Hadd.out))
            have Hck := Lib.hid (HqX.out.check (by omega))
            cases hok : verOk X.l with
            | false =>
              rw [hok] at Hck
              have Hno := Lib.hid (Hend.out.trans (if_neg (by rw [← verOk_lv, hok]; decide)))
              clear hok
              go_wp2_with fail
              refine Hck.out.mono ?_
              rintro e w2 ⟨rfl, hb2⟩
              clear Hck
              go_wp2
              go_ret2
              exact Lib.hid (rpOut_no Hno.out (HqX.out.bel.trans (hb2.mono HqX.out.bel.size)))
            | true =>
              rw [hok] at Hck
              have Hyes := Lib.hid (Hend.out.trans (if_pos (by rw [← verOk_lv, hok])))
              clear hok
              go_wp2_with fail
              refine Hck.out.mono ?_
              rintro e w2 ⟨rfl, hb2⟩
              clear Hck
              go_wp2
              go_ret2
              exact Lib.hid (rpOut_yes Hyes.out rfl (HqX.out.below hb2))
end Go.Proofs.Ytjefpogeknbelaa.Tithe
