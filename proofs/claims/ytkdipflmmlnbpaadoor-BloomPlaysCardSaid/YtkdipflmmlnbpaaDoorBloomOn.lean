/- The document's filter of bits: New, Add, Has, Bytes. -/
import Derived.Test.YtkdipflmmlnbpaaDoorBloomPlaces
import Derived.Deep.RegionHeld3
namespace Go.Proofs.YtkdipflmmlnbpaaDoor.Tithe
open Go.RowKit Go.Sort Go.Shelf
set_option linter.unusedVariables false
def onCells (bs : List Nat) : List Value := (List.range (8 * bs.length)).map fun j => Value.bool (testB bs j)
theorem onCells_length (bs : List Nat) : (onCells bs).length = 8 * bs.length := by simp [onCells]
theorem onCells_get (bs : List Nat) (j : Nat) (h : j < 8 * bs.length) : (onCells bs)[j]? = some (.bool (testB bs j)) := by
  simp [onCells, h]
theorem onCells_set (bs : List Nat) (i : Nat) (h : i < 8 * bs.length) : (onCells bs).set i (.bool true) = onCells (setB bs i) := by
  apply List.ext_getElem?
  intro j
  rw [List.getElem?_set]
  by_cases e : i = j
  · subst e
    rw [if_pos rfl, if_pos (by rw [onCells_length]; exact h), onCells_get _ _ (by rw [setB_length]; exact h), testB_setB bs i i (by omega)]
    simp
  · rw [if_neg e]
    rcases Nat.lt_or_ge j (8 * bs.length) with q | q
    · rw [onCells_get _ _ q, onCells_get _ _ (by rw [setB_length]; exact q), testB_setB bs i j (by omega)]
      simp [Ne.symm e]
    · rw [List.getElem?_eq_none (by rw [onCells_length]; exact q), List.getElem?_eq_none (by rw [onCells_length, setB_length]; exact q)]
theorem testB_zeros (L j : Nat) : testB (List.replicate L 0) j = false := by
  unfold testB
  have : (List.replicate L 0).getD (j / 8) 0 = 0 := by
    rw [List.getD_eq_getElem?_getD, List.getElem?_replicate]; split <;> rfl
  rw [this]; simp
theorem onCells_zeros (L : Nat) : onCells (List.replicate L 0) = List.replicate (8 * L) (.bool false) := by
  apply List.ext_getElem?
  intro j
  rcases Nat.lt_or_ge j (8 * L) with q | q
  · rw [onCells_get _ _ (by simpa using q), testB_zeros, List.getElem?_replicate, if_pos q]
  · rw [List.getElem?_eq_none (by rw [onCells_length]; simpa using q), List.getElem?_eq_none (by simpa using q)]
structure IsRef (w : World) (fb gb : Nat) (bs : List Nat) (p : Nat) : Prop where
  blk : w.heap[fb]? = some (.cells #[.slice (some ⟨gb, 0, none⟩) (8 * bs.length) (8 * bs.length), .int .i64 p] 42 (0, 0))
  arr : w.heap[gb]? = some (.cells (onCells bs).toArray 4 (0, 0))
  pos : 0 < bs.length
  most : bs.length ≤ 2097152
  p30 : 1 ≤ p ∧ p ≤ 30
  b8 : ∀ x ∈ bs, x < 256
theorem IsRef.lt {w : World} {fb gb : Nat} {bs : List Nat} {p : Nat} (h : IsRef w fb gb bs p) : fb < w.heap.size ∧ gb < w.heap.size :=
  ⟨(Array.getElem?_eq_some_iff.1 h.blk).1, (Array.getElem?_eq_some_iff.1 h.arr).1⟩
theorem IsRef.keep {w w' : World} {fb gb : Nat} {bs : List Nat} {p : Nat} (h : IsRef w fb gb bs p) (h1 : w'.heap[fb]? = w.heap[fb]?) (h2 : w'.heap[gb]? = w.heap[gb]?) : IsRef w' fb gb bs p :=
  ⟨h1.trans h.blk, h2.trans h.arr, h.pos, h.most, h.p30, h.b8⟩
theorem IsRef.below {w w' : World} {fb gb : Nat} {bs : List Nat} {p : Nat} (h : IsRef w fb gb bs p) (hb : Below w.heap.size w w') : IsRef w' fb gb bs p :=
  h.keep (hb.block _ h.lt.1) (hb.block _ h.lt.2)
theorem IsRef.ne {w : World} {fb gb : Nat} {bs : List Nat} {p : Nat} (h : IsRef w fb gb bs p) : fb ≠ gb := by
  rintro rfl
  have h1 := h.blk
  rw [h.arr] at h1
  injection h1 with h1
  injection h1 with h1 h2
  exact absurd h2 (by decide)
theorem boolinfo : (Tryd.prog.info? 4).map (fun i => (i.zero, i.size, i.bytes)) = some (some (.bool false), 1, 1) := by kernel_rfl
theorem run_make_falses (w : World) (k : Nat) (hk : k ≤ 16777216) : (Instr.makeSlice 40 (.int .i64 (k : Int)) (.int .i64 (k : Int))).run Tryd.prog w = .ok (.slice (some ⟨w.heap.size, 0, none⟩) k k) (w.alloc (.cells (List.replicate k (.bool false)).toArray 4)) := by
  obtain ⟨i0, hi0, hz0, hz1, hz2⟩ := info_parts boolinfo
  have := run_make (P := Tryd.prog) w _ _ i0 _ Tryd.underlying40 hi0 hz0 .i64 .i64 (k : Int) (k : Int) (by omega) (by omega) (by rw [hz2]; omega) (by omega)
  rw [this]
  simp only [Int.toNat_natCast, hz1, Nat.mul_one]
  congr 3
  apply Array.ext'
  unfold madeCells
  simp
  apply List.ext_getElem
  · simp
  · intro i h1 h2
    simp [Value.cells, Nat.mod_one]
theorem refnew_any (n e : Nat) (w : World) (hn : n ≤ 65536) (h1 : 1 ≤ e) (h2 : e ≤ 32) :
    Calls Tryd.prog 16 #[.int .i64 n, .int .i64 e] w fun r w' => r = .returned (.pointer (some ⟨w.heap.size + 1, 0, none⟩)) ∧ IsRef w' (w.heap.size + 1) w.heap.size (List.replicate (newLen n e) 0) (newProbes e) ∧ Below w.heap.size w w' := by
  have hne : n * e ≤ 2097152 := by
    have : n * e ≤ 65536 * 32 := Nat.mul_le_mul hn h2
    omega
  have hmul : (n : Int) * (e : Int) = ((n * e : Nat) : Int) := (Int.natCast_mul n e).symm
  have hlen : newLen n e = (max (n * e) 64 + 7) / 8 := rfl
  have hpr : newProbes e = max (e * 7 / 10) 1 := rfl
  generalize newLen n e = L at *
  generalize newProbes e = pr at *
  generalize n * e = m0 at *
  obtain ⟨L8, hL8⟩ : ∃ L8, L8 = 8 * L := ⟨_, rfl⟩
  have hpb : 1 ≤ pr ∧ pr ≤ 30 := by omega
  have fin : ∀ w' : World, w' = ((w.alloc (.cells (List.replicate L8 (.bool false)).toArray 4)).alloc (.cells #[.slice (some ⟨w.heap.size, 0, none⟩) L8 L8, .int .i64 pr] 42)) → IsRef w' (w.heap.size + 1) w.heap.size (List.replicate L 0) pr ∧ Below w.heap.size w w' := by
    rintro w' rfl
    refine ⟨⟨?_, ?_, by rw [List.length_replicate]; omega, by rw [List.length_replicate]; omega, hpb, fun x hx => by rw [List.eq_of_mem_replicate hx]; decide⟩, ((Below.refl _ _).alloc (Nat.le_refl _) _).alloc (by simp) _⟩
    · have := World.alloc_heap_new (w.alloc (.cells (List.replicate L8 (.bool false)).toArray 4)) (.cells #[.slice (some ⟨w.heap.size, 0, none⟩) L8 L8, .int .i64 pr] 42)
      rw [World.size_alloc] at this
      rw [List.length_replicate, ← hL8]
      exact this
    · rw [onCells_zeros, ← hL8]
      exact (Below.heap_alloc _ _ _ (by simp)).trans (World.alloc_heap_new w _)
  have Fin := Lib.hid fin
  have hmk := fun W => run_make_falses W L8 (by omega)
  have main : ∀ (q7 : Bool) (q10 : Bool), decide ((m0 : Int) < 64) = q7 → decide ((e : Int) * 7 / 10 < 1) = q10 → Calls Tryd.prog 16 #[.int .i64 n, .int .i64 e] w fun r w' => r = .returned (.pointer (some ⟨w.heap.size + 1, 0, none⟩)) ∧ IsRef w' (w.heap.size + 1) w.heap.size (List.replicate L 0) pr ∧ Below w.heap.size w w' := by
    intro q7 q10 e7 e10
    have HL := Lib.hid hlen
    have HP := Lib.hid hpr
    have HL8 := Lib.hid hL8
    have E7 := Lib.hid e7
    have E10 := Lib.hid e10
    clear hlen hpr hL8 fin
    cases q7 <;> cases q10
    all_goals
      have hpp : Hid ((if decide ((e : Int) * 7 / 10 < 1) then (1 : Int) else (e : Int) * 7 / 10) = (pr : Int)) := by
        show _ = _
        have := HP.out
        rw [E10.out]
        have := E10.out
        simp at this
        simp
        omega
      go_enter Tryd.func16, Tryd.ntmps16
      go_wp2
      go_loop [5] (fun i => ∃ m : Nat, i = .int .i64 m ∧ m0 ≤ m ∧ 64 ≤ m ∧ m ≤ L8) (fun i => L8 - (intOf i).toNat)
      case atStart =>
        have := HL.out
        have := HL8.out
        have := E7.out
        simp at this
        first | exact ⟨64, rfl, by omega, by omega, by omega⟩ | exact ⟨m0, rfl, by omega, by omega, by omega⟩
      case round =>
        obtain ⟨m, rfl, hm0, hm64, hmL⟩ := hrel
        have hL8b : L8 ≤ 16777216 := by have := HL.out; have := HL8.out; omega
        by_cases hm : m % 8 = 0
        · have ht : ((m : Int) % 8 != 0) = false := by rw [bne_eq_false_iff_eq]; omega
          have hmm : m = L8 := by have := HL.out; have := HL8.out; have := E7.out; simp at this; omega
          subst hmm
          clear hm
          go_wp2
          go_ret
          refine ⟨rfl, Fin.out _ ?_⟩
          have h := hpp.out
          rw [E10.out] at h
          simp at h
          rw [← h, List.toArray_replicate]
        · have ht : ((m : Int) % 8 != 0) = true := by rw [bne_iff_ne]; omega
          have hm1 : m + 1 ≤ L8 := by have := HL.out; have := HL8.out; omega
          clear hm
          go_wp2
          go_round
          case rel => exact ⟨m + 1, by go_num, by omega, by omega, hm1⟩
          case measure => simp [intOf]; omega
  exact main _ _ rfl rfl
theorem grown_setCell' (w : World) (g i : Nat) (v : Value) : w.grownBy (w.setCell ⟨g, i, none⟩ v) (some g) :=
  ⟨rfl, rfl, rfl, by simp [World.setCell], fun k _ hn => Below.heap_setCell w _ _ k (fun e => hn (by rw [e]))⟩
theorem IsRef.set {w : World} {fb gb : Nat} {bs : List Nat} {p : Nat} (h : IsRef w fb gb bs p) (i : Nat) (hi : i < 8 * bs.length) :
    IsRef (w.setCell ⟨gb, i, none⟩ (.bool true)) fb gb (setB bs i) p := by
  refine ⟨?_, ?_, by rw [setB_length]; exact h.pos, by rw [setB_length]; exact h.most, h.p30, setB_byte h.b8 i⟩
  · rw [setB_length, Below.heap_setCell _ _ _ _ h.ne]; exact h.blk
  · rw [blk_setCell h.arr]
    congr 2
    rw [← onCells_set bs i hi]
    simp
theorem IsRef.setD {w : World} {fb gb : Nat} {bs : List Nat} {p : Nat} (h : IsRef w fb gb bs p) (i : Nat) (hi : i < 8 * bs.length) :
    IsRef (w.setCell ⟨gb, i, none⟩ (.bool true)).drew fb gb (setB bs i) p := (h.set i hi).keep rfl rfl
theorem still_of_run {P : Program} {o : Oper} {a : Act} {w : World} {next : Act → Prop} {v : Value} (hr : (execOp a.eval o).run P w = .ok (.value v) w) (h : next (a.put o.dst v)) : o.still P a w next := by
  rw [Oper.still, hr]; exact ⟨rfl, h⟩
theorem refadd_any (w : World) (v : Value) (l : List Nat) (fb gb : Nat) (bs : List Nat) (p : Nat) (hk : IsBytes w v l) (hf : IsRef w fb gb bs p) :
    Calls Tryd.prog 18 #[.pointer (some ⟨fb, 0, none⟩), v] w fun e w' => (∃ x, e = .returned x) ∧ IsRef w' fb gb (addL bs (keyPlaces l (8 * bs.length) p)) p ∧ w.grownBy w' (some gb) := by
  have Hk := Lib.hid hk
  have Hf := Lib.hid hf
  have c0 : w.cell? ⟨fb, 0, none⟩ = some (.slice (some ⟨gb, 0, none⟩) (8 * bs.length : Nat) (8 * bs.length : Nat)) := by rw [cell_of_blk hf.blk]; rfl
  have c1 : w.cell? ⟨fb, 1, none⟩ = some (.int .i64 p) := by rw [cell_of_blk hf.blk]; rfl
  have hpos := hf.pos
  have hmost := hf.most
  have hp30 := hf.p30
  obtain ⟨n, hn⟩ : ∃ n, n = 8 * bs.length := ⟨_, rfl⟩
  rw [← hn] at c0 ⊢
  have hcall := refplaces_any v l n p w.drew (hk.below (Below.refl _ _).drew) (by omega) (by omega) (by omega)
  have Hc := Lib.hid hcall
  have hn1 : 0 < n ∧ n ≤ 16777216 := by omega
  have Hn := Lib.hid hn
  clear hk hf hcall hn
  go_enter Tryd.func18, Tryd.ntmps18
  go_wp2_with fail
  go_still_tail 10, (by kernel_rfl)
  change wpList _ _ _ _ _ w.drew
  have hd : Below w.heap.size w w.drew := (Below.refl _ _).drew
  go_wp2_with fail
  refine Hc.out.mono ?_
  rintro e w1 ⟨y, rfl, ho1, hb1⟩
  obtain ⟨gy, cy, rfl, hgy⟩ := own_form' ho1 (by omega)
  have hb1' : Below w.heap.size w w1 := hd.trans hb1
  have hs1 : w.heap.size ≤ w1.heap.size := hb1'.size
  have Hf1 := Lib.hid (Hf.out.below hb1')
  have Ho1 := Lib.hid ho1
  have hlt := Hf.out.lt
  have HG : Hid (w.grownBy w1 (some gb)) := ⟨hb1'.os, hb1'.tape, hb1'.output, hb1'.size, fun k hk _ => hb1'.block k hk⟩
  have hgg : gy ≠ gb := by have : w.drew.heap.size = w.heap.size := rfl; omega
  have hgl := Lib.hid (own_blk ho1)
  clear ho1 hb1 hd
  go_wp2_with fail
  go_loopw [5] (fun i wr => ∃ k : Nat, k ≤ p ∧ i = .int .i64 k ∧ IsRef wr fb gb (addL bs (places (keyC l) (keyD l) n k)) p ∧ w1.grownBy wr (some gb)) (fun i _ => p - (intOf i).toNat)
  case atStart => exact ⟨0, Nat.zero_le _, rfl, Hf1.out, World.grownBy.refl _ _⟩
  case round =>
    obtain ⟨k, hk, rfl, hf, hg⟩ := hrel
    by_cases hkp : k < p
    · have hkl : k < (keyPlaces l n p).length := by simp [keyPlaces, places]; omega
      have hy0 := own_cells Ho1.out hkl
      have hqe : (keyPlaces l n p)[k] = placeAt (keyC l) (keyD l) n k := by simp [keyPlaces, places]
      have hqn : placeAt (keyC l) (keyD l) n k < n := Nat.mod_lt _ (by omega)
      rw [hqe] at hy0
      have hlen : (addL bs (places (keyC l) (keyD l) n k)).length = bs.length := addL_length _ _
      have hsucc : addL bs (places (keyC l) (keyD l) n (k + 1)) = setB (addL bs (places (keyC l) (keyD l) n k)) (placeAt (keyC l) (keyD l) n k) := by rw [places_succ, addL_append]; rfl
      generalize placeAt (keyC l) (keyD l) n k = q at *
      generalize addL bs (places (keyC l) (keyD l) n k) = cs at *
      have hset := hf.setD q (by rw [hlen]; have := Hn.out; omega)
      have hy : wr.cell? ⟨gy, k, none⟩ = some (.int .i64 q) := cell_grown hg hy0 hgg
      have d0 : wr.cell? ⟨fb, 0, none⟩ = some (.slice (some ⟨gb, 0, none⟩) n n) := by rw [cell_of_blk hf.blk, hlen, ← Hn.out]; rfl
      have d1 : ∃ u, wr.cell? ⟨gb, q, none⟩ = some u := by rw [cell_of_blk hf.arr]; exact ⟨.bool (testB cs q), by rw [List.getElem?_toArray, onCells_get _ _ (by rw [hlen]; have := Hn.out; omega)]⟩
      obtain ⟨u, d1⟩ := d1
      have d2 : wr.frozen? ⟨gb, q, none⟩ = false := frozen_of_blk hf.arr _
      have Hset := Lib.hid hset
      have Hg := Lib.hid hg
      have Hs := Lib.hid hsucc
      clear hset hg hf hsucc hlen hqe hkl hy0
      go_wp2
      refine wp_region_still_tail 9 (by kernel_rfl) (by kernel_rfl) ?_
      simp only [List.take_succ_cons, List.take_zero, List.drop_succ_cons, List.drop_zero]
      iterate 8 still_step
      refine wpStill_step (fun K hK => ?_)
      rw [if_pos (by rfl)]
      refine still_of_run (v := .pointer (some ⟨gb, q, none⟩)) (by as_aux_lemma => go_simp) (hK _ ?_)
      clear hK K
      refine wpStill_nil ?_
      change wpList _ _ _ _ _ wr.drew
      go_wp2
      go_roundw
      case rel => exact ⟨k + 1, by omega, by go_num, by rw [Hs.out]; exact Hset.out, Hg.out.trans (grown_setCell wr gb q _)⟩
      case measure => simp [intOf]; omega
    · obtain rfl : k = p := by omega
      have hlast : Hid (IsRef wr fb gb (addL bs (places (keyC l) (keyD l) n k)) k) := hf
      have hgl' := Lib.hid (HG.out.trans hg)
      clear hf hg
      go_wp2
      go_end0
      exact ⟨⟨_, rfl⟩, hlast.out, hgl'.out⟩
theorem refhas_any (w : World) (v : Value) (l : List Nat) (fb gb : Nat) (bs : List Nat) (p : Nat) (hk : IsBytes w v l) (hf : IsRef w fb gb bs p) :
    Calls Tryd.prog 21 #[.pointer (some ⟨fb, 0, none⟩), v] w fun e w' => e = .returned (.bool (hasL bs (keyPlaces l (8 * bs.length) p))) ∧ Below w.heap.size w w' := by
  have Hk := Lib.hid hk
  have Hf := Lib.hid hf
  have c0 : w.cell? ⟨fb, 0, none⟩ = some (.slice (some ⟨gb, 0, none⟩) (8 * bs.length : Nat) (8 * bs.length : Nat)) := by rw [cell_of_blk hf.blk]; rfl
  have c1 : w.cell? ⟨fb, 1, none⟩ = some (.int .i64 p) := by rw [cell_of_blk hf.blk]; rfl
  have hpos := hf.pos
  have hmost := hf.most
  have hp30 := hf.p30
  obtain ⟨n, hn⟩ : ∃ n, n = 8 * bs.length := ⟨_, rfl⟩
  rw [← hn] at c0 ⊢
  have hcall := refplaces_any v l n p w.drew (hk.below (Below.refl _ _).drew) (by omega) (by omega) (by omega)
  have Hc := Lib.hid hcall
  have hn1 : 0 < n ∧ n ≤ 16777216 := by omega
  have hany : ∀ k, k < p → testB bs (placeAt (keyC l) (keyD l) n k) = false → hasL bs (keyPlaces l n p) = false := fun k hk h => hasL_not hk h
  have hall : (∀ j, j < p → testB bs (placeAt (keyC l) (keyD l) n j) = true) → hasL bs (keyPlaces l n p) = true := fun h => hasL_all h
  have Hany := Lib.hid hany
  have Hall := Lib.hid hall
  have Hn := Lib.hid hn
  clear hk hf hcall hn hany hall
  generalize hA : hasL bs (keyPlaces l n p) = A at *
  clear hA
  go_enter Tryd.func21, Tryd.ntmps21
  go_wp2_with fail
  go_still_tail 10, (by kernel_rfl)
  change wpList _ _ _ _ _ w.drew
  have hd : Below w.heap.size w w.drew := (Below.refl _ _).drew
  go_wp2_with fail
  refine Hc.out.mono ?_
  rintro e w1 ⟨y, rfl, ho1, hb1⟩
  obtain ⟨gy, cy, rfl, hgy⟩ := own_form' ho1 (by omega)
  have hb1' : Below w.heap.size w w1 := hd.trans hb1
  have hs1 : w.heap.size ≤ w1.heap.size := hb1'.size
  have Hf1 := Lib.hid (Hf.out.below hb1')
  have Ho1 := Lib.hid ho1
  have Hb1 := Lib.hid hb1'
  clear ho1 hb1 hd hb1'
  go_wp2_with fail
  go_loopw [6] (fun i wr => ∃ k : Nat, k ≤ p ∧ i = .int .i64 k ∧ (∀ j, j < k → testB bs (placeAt (keyC l) (keyD l) n j) = true) ∧ Below w1.heap.size w1 wr) (fun i _ => p - (intOf i).toNat)
  case atStart => exact ⟨0, Nat.zero_le _, rfl, fun j hj => by omega, Below.refl _ _⟩
  case round =>
    obtain ⟨k, hk, rfl, hj, hb⟩ := hrel
    have Hj := Lib.hid hj
    clear hj
    by_cases hkp : k < p
    · have hkl : k < (keyPlaces l n p).length := by simp [keyPlaces, places]; omega
      have hy0 := own_cells Ho1.out hkl
      have hqe : (keyPlaces l n p)[k] = placeAt (keyC l) (keyD l) n k := by simp [keyPlaces, places]
      have hqn : placeAt (keyC l) (keyD l) n k < n := Nat.mod_lt _ (by omega)
      rw [hqe] at hy0
      obtain ⟨q, hq⟩ : ∃ q, q = placeAt (keyC l) (keyD l) n k := ⟨_, rfl⟩
      have Hany' := Lib.hid (Hany.out k hkp)
      have Hnext : Hid (testB bs q = true → ∀ j, j < k + 1 → testB bs (placeAt (keyC l) (keyD l) n j) = true) := by
        intro h j hj
        rcases Nat.lt_or_ge j k with z | z
        · exact Hj.out j z
        · obtain rfl : j = k := by omega
          rw [← hq]; exact h
      rw [← hq] at hy0 hqn Hany'
      have hf := Hf1.out.below hb
      have hy : wr.cell? ⟨gy, k, none⟩ = some (.int .i64 q) := by rw [hb.cell (block_lt_of_cell hy0)]; exact hy0
      have d0 : wr.cell? ⟨fb, 0, none⟩ = some (.slice (some ⟨gb, 0, none⟩) n n) := by rw [cell_of_blk hf.blk, ← Hn.out]; rfl
      have d1 : wr.cell? ⟨gb, q, none⟩ = some (.bool (testB bs q)) := by rw [cell_of_blk hf.arr, List.getElem?_toArray, onCells_get _ _ (by rw [← Hn.out]; exact hqn)]
      have hdr : Below w1.heap.size w1 wr.drew := hb.drew
      have Hdr := Lib.hid hdr
      clear hf hdr hqe hkl hy0 hb hq
      generalize hT : testB bs q = T at *
      have HT := Lib.hid hT
      clear hT
      go_wp2
      refine wp_region_still_lit (by kernel_rfl) (by kernel_rfl) ?_
      iterate 8 still_step
      refine wpStill_step (fun K hK => ?_)
      rw [if_pos (by rfl)]
      refine still_of_run (v := .pointer (some ⟨gb, q, none⟩)) (by as_aux_lemma => go_simp) (hK _ ?_)
      clear hK K
      cases T with
      | false =>
        have hA : Hid (A = false) := Hany'.out rfl
        repeat still_step
        refine wpStill_nil ?_
        change Exit.then _ _ _ _ wr.drew
        go_wp2
        go_ret
        exact ⟨by rw [hA.out]; rfl, Hb1.out.trans (Hdr.out.mono hs1)⟩
      | true =>
        repeat still_step
        refine wpStill_nil ?_
        change Exit.then _ _ _ _ wr.drew
        go_wp2
        go_roundw
        case rel => exact ⟨k + 1, by omega, by go_num, Hnext.out rfl, Hdr.out⟩
        case measure => simp [intOf]; omega
    · obtain rfl : k = p := by omega
      have hA := Lib.hid (Hall.out Hj.out)
      have hfin := Lib.hid (Hb1.out.trans (hb.mono hs1))
      clear hb
      go_wp2
      go_ret
      exact ⟨by rw [hA.out]; rfl, hfin.out⟩
theorem half_bit (x s : Nat) : x / 2 ^ s = 2 * (x / 2 ^ (s + 1)) + (if x.testBit s then 1 else 0) := by
  rw [Nat.pow_succ, ← Nat.div_div_eq_div_mul, Nat.testBit_eq_decide_div_mod_eq]
  generalize x / 2 ^ s = y
  by_cases h : y % 2 = 1 <;> simp [h] <;> omega
theorem refbytes_any (w : World) (fb gb : Nat) (bs : List Nat) (p : Nat) (hf : IsRef w fb gb bs p) :
    Calls Tryd.prog 23 #[.pointer (some ⟨fb, 0, none⟩)] w fun e w' => ∃ v, e = .returned v ∧ w'.ownsRow w.heap.size 5 1 v (p :: bs).length (cellsOfL (p :: bs)) ∧ Below w.heap.size w w' := by
  obtain ⟨i0, hi0, hz0, hz1, hz2⟩ := info_parts u8info
  have Hf := Lib.hid hf
  have hpos := hf.pos
  have hmost := hf.most
  have hp30 := hf.p30
  obtain ⟨n, hn⟩ : ∃ n, n = 8 * bs.length := ⟨_, rfl⟩
  have c0 : w.cell? ⟨fb, 0, none⟩ = some (.slice (some ⟨gb, 0, none⟩) n n) := by rw [cell_of_blk hf.blk, hn]; rfl
  have c1 : w.cell? ⟨fb, 1, none⟩ = some (.int .i64 p) := by rw [cell_of_blk hf.blk]; rfl
  have C0 := Lib.hid c0
  have hn1 : n ≤ 16777216 := by omega
  have Hn := Lib.hid hn
  have hpw : Hid (IntKind.u8.wrap (p : Int) = (p : Int)) := by show _ = _; rw [IntKind.wrap_u8']; omega
  obtain ⟨m1, hm1⟩ : ∃ m1, m1 = bs.length := ⟨_, rfl⟩
  have Hm1 := Lib.hid hm1
  clear hf hn hm1
  go_enter Tryd.func23, Tryd.ntmps23
  go_wp2_with fail
  have hstart : ∀ W : World, W = (w.alloc (.cells #[.int .u8 (p : Int)] 5)) → W.ownsRow w.heap.size 5 1 (.slice (some ⟨w.heap.size, 0, none⟩) 1 1) 1 (cellsOfL (p :: bs.take 0)) ∧ Below w.heap.size w W := by
    rintro W rfl
    refine ⟨?_, (Below.refl _ _).alloc (Nat.le_refl _) _⟩
    exact ownsRow_new w (cellsOfL [p]) 5 1 (by decide) rfl
  have Hstart := Lib.hid hstart
  clear hstart c0 c1
  go_loopw [3, 4] (fun x i wr => ∃ m i8 : Nat, m ≤ m1 ∧ i8 = 8 * m ∧ i = .int .i64 i8 ∧ wr.ownsRow w.heap.size 5 1 x (m + 1) (cellsOfL (p :: bs.take m)) ∧ Below w.heap.size w wr) (fun _ i _ => n - (intOf i).toNat)
  case atStart => exact ⟨0, 0, Nat.zero_le _, rfl, rfl, (Hstart.out _ rfl).1, (Hstart.out _ rfl).2⟩
  case round =>
    obtain ⟨m, i8, hm, hi8, rfl, hown, hb⟩ := hrel
    have hwr : w.heap.size ≤ wr.heap.size := hb.size
    have hc0 : wr.cell? ⟨fb, 0, none⟩ = some (.slice (some ⟨gb, 0, none⟩) n n) := by rw [hb.cell (block_lt_of_cell C0.out)]; exact C0.out
    by_cases hlt : i8 < n
    · have hmlt : m < bs.length := by have := Hn.out; omega
      have hi8n : i8 + 8 ≤ n := by have := Hn.out; omega
      have hbits : Hid (∀ s, s < 8 → wr.cell? ⟨gb, i8 + s, none⟩ = some (.bool ((bs.getD m 0).testBit s))) := by
        intro s hs
        have hF := Hf.out.below hb
        rw [cell_of_blk hF.arr, List.getElem?_toArray, onCells_get _ _ (by have := Hn.out; omega)]
        congr 2
        unfold testB
        rw [show (i8 + s) / 8 = m from by omega, show (i8 + s) % 8 = s from by omega]
      have hx8 : bs.getD m 0 < 256 := getD_byte Hf.out.b8 m
      have hnext : Hid (cellsOfL (p :: bs.take (m + 1)) = cellsOfL (p :: bs.take m) ++ [.int .u8 (bs.getD m 0 : Nat)]) := by
        show _ = _
        rw [show p :: bs.take (m + 1) = (p :: bs.take m) ++ [bs.getD m 0] from by rw [List.take_succ_eq_append_getElem hmlt, List.getD_eq_getElem?_getD, List.getElem?_eq_getElem hmlt]; rfl]
        unfold cellsOfL
        rw [List.map_append]; rfl
      generalize bs.getD m 0 = x at *
      have Hi8 := Lib.hid hi8
      clear hi8
      obtain ⟨wo, rfl⟩ : ∃ wo : World, wo = wr := ⟨_, rfl⟩
      have h0 : Hid (x / 2 ^ 8 = 0) := Nat.div_eq_of_lt hx8
      go_wp2_with fail
      go_loop [5, 6] (fun c k => ∃ (t : Nat) (kk : Int), t ≤ 8 ∧ kk = (t : Int) - 1 ∧ k = .int .i64 kk ∧ c = .int .i64 (x / 2 ^ t : Nat)) (fun _ k => match k with | .int _ n => (n + 1).toNat | _ => 0)
      case atStart => exact ⟨8, 7, Nat.le_refl _, rfl, rfl, by rw [h0.out]; rfl⟩
      case round =>
        obtain ⟨t, kk, ht, hkk, rfl, rfl⟩ := hrel
        have hle : x / 2 ^ t < 256 := Nat.lt_of_le_of_lt (Nat.div_le_self _ _) hx8
        cases t with
        | zero =>
          obtain rfl : kk = -1 := by omega
          have hx1 : x / 2 ^ 0 = x := by simp
          rw [hx1]
          have hxw : IntKind.u8.wrap (x : Int) = (x : Int) := by rw [IntKind.wrap_u8']; omega
          clear hkk hx1
          go_wp2_with (first | (at_builtin; refine wpList_append_own _ rfl (.tmp 39) (.tmp 42) 29 rfl w.heap.size 5 i0 (.int .u8 0) 1 1 Tryd.underlying29 hi0 hz0 hz1 hz2 rfl (by decide) _ (m + 1) _ rfl (hown.alloc _) ⟨wo.heap.size, 0, none⟩ 1 1 [.int .u8 (x : Int)] rfl rfl ?c1 ?c2 ?c3 ?c4 ?c5 ?_))
          case c2 => first | rfl | (intro u hu; simp at hu; subst hu; rfl)
          case c3 => unfold maxLen; omega
          case c4 => omega
          case c5 => first | omega | (simp; omega)
          intro v' w1 hown' hgrow _
          have hg : Below w.heap.size w w1 := by
            rcases hown.2 with ⟨hx, _⟩ | ⟨g, cap', cur, hx, hgb, _⟩
            · exact (hb.alloc hwr _).grown hgrow (by simp; omega) (fun k hk => by rw [hx] at hk; cases hk)
            · exact (hb.alloc hwr _).grown hgrow (by simp; omega) (fun k hk => by rw [hx] at hk; simp [Value.ownBlock] at hk; omega)
          rw [← hnext.out] at hown'
          clear hown
          go_wp2
          go_roundw
          case rel => exact ⟨m + 1, i8 + 8, by have := Hm1.out; omega, by have := Hi8.out; omega, by go_num, hown', hg⟩
          case measure => simp [intOf]; omega
        | succ s =>
          obtain rfl : kk = (s : Int) := by omega
          have hq := hbits.out s (by omega)
          have hhalf := half_bit x s
          generalize hy : x / 2 ^ (s + 1) = y at *
          have Hy := Lib.hid hy
          clear hy hkk
          cases hB : x.testBit s with
          | false =>
            rw [hB] at hq
            have hz : x / 2 ^ s = 2 * y := by rw [hhalf, hB]; rfl
            have Hz := Lib.hid hz
            clear hz hhalf hB
            go_wp2
            go_round
            case rel => exact ⟨s, (s : Int) - 1, by omega, rfl, rfl, by rw [Hz.out]; go_num⟩
            case measure => simp
          | true =>
            rw [hB] at hq
            have hz : x / 2 ^ s = 2 * y + 1 := by rw [hhalf, hB]; rfl
            have Hz := Lib.hid hz
            clear hz hhalf hB
            go_wp2
            go_round
            case rel => exact ⟨s, (s : Int) - 1, by omega, rfl, rfl, by rw [Hz.out]; go_num⟩
            case measure => simp
    · obtain rfl : m = m1 := by have := Hn.out; have := Hm1.out; omega
      have hown2 := hown
      rw [Hm1.out, List.take_length] at hown2
      have hfin := Lib.hid hown2
      clear hown2
      clear hown
      go_wp2
      go_ret
      exact ⟨_, rfl, hfin.out, hb⟩
end Go.Proofs.YtkdipflmmlnbpaaDoor.Tithe
