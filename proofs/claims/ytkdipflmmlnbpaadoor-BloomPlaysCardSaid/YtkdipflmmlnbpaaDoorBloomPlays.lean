/- The law BloomPlays, walked. -/
import Derived.Test.YtkdipflmmlnbpaaDoorBloomOn
import Derived.Test.YtkdipflmmlnbpaaDoorBloomParse
namespace Go.Proofs.YtkdipflmmlnbpaaDoor.Tithe
open Go.RowKit Go.Sort Go.Shelf
set_option linter.unusedVariables false
theorem own_grown_far {W W' : World} {row : Option Nat} {base : Nat} {e : TypeId} {n : Nat} {x : Value} {xs : List Value} (h : W.ownsRow base e 1 x n xs) (hg : W.grownBy W' row) (hr : ∀ r, row = some r → r < base) : W'.ownsRow base e 1 x n xs := by
  refine ⟨h.1, ?_⟩
  rcases h.2 with h0 | ⟨g, cap, cur, hv, hb, hh, r⟩
  · exact .inl h0
  · refine .inr ⟨g, cap, cur, hv, hb, (hg.block g (Array.getElem?_eq_some_iff.1 hh).1 (fun e => ?_)).trans hh, r⟩
    have := hr g e.symm
    omega
theorem own_below {W W' : World} {base : Nat} {e : TypeId} {n : Nat} {x : Value} {xs : List Value} (h : W.ownsRow base e 1 x n xs) (hb : Below W.heap.size W W') : W'.ownsRow base e 1 x n xs :=
  own_grown_far (row := none) h ⟨hb.os, hb.tape, hb.output, hb.size, fun k hk _ => hb.block k hk⟩ (fun r e => by cases e)
theorem byte_cons {p : Nat} {cs : List Nat} (hp : p ≤ 30) (h : ∀ x ∈ cs, x < 256) : ∀ x ∈ p :: cs, x < 256 := by
  intro x hx
  rcases List.mem_cons.1 hx with rfl | hx
  · omega
  · exact h x hx
theorem IsRef.grown {W W' : World} {row : Option Nat} {fb gb : Nat} {bs : List Nat} {p : Nat} (h : IsRef W fb gb bs p) (hg : W.grownBy W' row) (h1 : row ≠ some fb) (h2 : row ≠ some gb) : IsRef W' fb gb bs p :=
  h.keep (hg.block _ h.lt.1 (Ne.symm h1)) (hg.block _ h.lt.2 (Ne.symm h2))
theorem IsFilter.grown' {W W' : World} {row : Option Nat} {fb gb cap : Nat} {bs : List Nat} {p : Nat} (h : IsFilter W fb gb cap bs p) (hg : W.grownBy W' row) (h1 : row ≠ some fb) (h2 : row ≠ some gb) : IsFilter W' fb gb cap bs p :=
  h.keep (hg.block _ h.lt.1 (Ne.symm h1)) (hg.block _ h.lt.2 (Ne.symm h2))
set_option maxRecDepth 100000 in
theorem plays_small (N E : Int) (v v' : Value) (ks : List (List Nat)) (l : List Nat) (w : World) (h : IsRows w v ks) (h' : IsBytes w v' l) (ht : TabOk w) (hs : smallB ks = false ∨ (smallB ks = true ∧ (500 : Int) < l.length)) :
    Calls Tryd.prog 4 #[.agg #[.int .i64 N, .int .i64 E, v, v']] w fun e w' => e = .returned (.bool true) ∧ Below w.heap.size w w' := by
  have Ht := Lib.hid ht
  have H := Lib.hid h
  obtain ⟨-, a, c, rfl, g1, g2, -⟩ := h'
  unfold maxLen at g2
  obtain ⟨ak, ck, rfl, -, -, -⟩ := h
  clear ht
  have hb0 : ∀ o : Obj, Below w.heap.size w (w.alloc o) := fun o => (Below.refl _ _).alloc (Nat.le_refl _) _
  have Hb0 := Lib.hid hb0
  clear hb0
  rcases hs with hs | ⟨hs, hl⟩
  all_goals
    have Hs := Lib.hid hs
    clear hs
    go_enter Tryd.func4, Tryd.ntmps4
    go_wp2_with fail
    refine (small_any _ ks _ (H.out.below (Hb0.out _))).mono ?_
    rintro e w' ⟨rfl, rfl⟩
    rw [Hs.out]
    go_wp2_with fail
    refine (awake_any _ (Ht.out.below (Hb0.out _))).mono ?_
    rintro e w' ⟨rfl, hb⟩
    go_wp2
    go_ret
    exact ⟨rfl, (Hb0.out _).trans (hb.mono (by simp))⟩
set_option maxRecDepth 100000 in
theorem plays_no (N E : Int) (v v' : Value) (ks : List (List Nat)) (l : List Nat) (w : World) (h : IsRows w v ks) (h' : IsBytes w v' l) (ht : TabOk w) (hs : smallB ks = true) (hl : (l.length : Int) ≤ 500) (hn : N < 0 ∨ 65536 < N ∨ E < 1 ∨ 32 < E) :
    Calls Tryd.prog 4 #[.agg #[.int .i64 N, .int .i64 E, v, v']] w fun e w' => e = .returned (.bool true) ∧ Below w.heap.size w w' := by
  have Ht := Lib.hid ht
  have H := Lib.hid h
  obtain ⟨-, a, c, rfl, g1, g2, -⟩ := h'
  unfold maxLen at g2
  obtain ⟨ak, ck, rfl, -, -, -⟩ := h
  have Hs := Lib.hid hs
  clear ht hs
  have hb0 : ∀ o : Obj, Below w.heap.size w (w.alloc o) := fun o => (Below.refl _ _).alloc (Nat.le_refl _) _
  have Hb0 := Lib.hid hb0
  clear hb0
  have HNo : Hid (∀ W, Calls Tryd.prog 11 #[.int .i64 N, .int .i64 E] W fun r w' => r = .returned (.tuple #[.pointer none, .int .i64 70]) ∧ W = w') := fun W => new_no N E W hn
  have key : ∀ (q : decide (N < 0) = true ∨ (decide (N < 0) = false ∧ (decide (65536 < N) = true ∨ (decide (65536 < N) = false ∧ (decide (E < 1) = true ∨ (decide (E < 1) = false ∧ decide (32 < E) = true)))))), Calls Tryd.prog 4 #[.agg #[.int .i64 N, .int .i64 E, .slice ak ks.length ck, .slice a l.length c]] w fun e w' => e = .returned (.bool true) ∧ Below w.heap.size w w' := by
    intro q
    clear hn
    rcases q with q1 | ⟨q1, q2 | ⟨q2, q3 | ⟨q3, q4⟩⟩⟩
    all_goals
      go_enter Tryd.func4, Tryd.ntmps4
      go_wp2_with fail
      refine (small_any _ ks _ (H.out.below (Hb0.out _))).mono ?_
      rintro e w' ⟨rfl, rfl⟩
      rw [Hs.out]
      go_wp2_with fail
      refine (HNo.out _).mono ?_
      rintro e w' ⟨rfl, rfl⟩
      go_wp2_with fail
      refine (awake_any _ (Ht.out.below (Hb0.out _))).mono ?_
      rintro e w' ⟨rfl, hb⟩
      go_wp2
      go_ret
      exact ⟨rfl, (Hb0.out _).trans (hb.mono (by simp))⟩
  refine key ?_
  simp only [decide_eq_true_eq, decide_eq_false_iff_not]
  omega
theorem smallB_le {ks : List (List Nat)} (h : smallB ks = true) {j : Nat} (hj : j < ks.length) : (ks.getD j []).length ≤ 200 := by
  unfold smallB at h
  simp only [Bool.and_eq_true, decide_eq_true_eq] at h
  exact h.1 j hj
theorem set_ints {cur : Array Value} {n1 k : Nat} {x : Int} (h : ∀ t, t < n1 → ∃ z : Int, cur[t]? = some (.int .u8 z)) : ∀ t, t < n1 → ∃ z : Int, (cur.setIfInBounds k (.int .u8 x))[t]? = some (.int .u8 z) := by
  intro t ht
  obtain ⟨z, hz⟩ := h t ht
  rw [Array.getElem?_setIfInBounds]
  by_cases e : k = t
  · subst e
    have : k < cur.size := (Array.getElem?_eq_some_iff.1 hz).1
    rw [if_pos rfl, if_pos this]
    exact ⟨x, rfl⟩
  · rw [if_neg e]; exact ⟨z, hz⟩
def cntB (cs : List Nat) (j : Nat) : Nat := (List.range j).countP fun i => testB cs i
theorem cntB_succ (cs : List Nat) (j : Nat) : cntB cs (j + 1) = cntB cs j + (if testB cs j then 1 else 0) := by
  unfold cntB
  rw [List.range_succ, List.countP_append]
  by_cases h : testB cs j <;> simp [h]
theorem cntB_le (cs : List Nat) (j : Nat) : cntB cs j ≤ j := by
  have := List.countP_le_length (p := fun i => testB cs i) (l := List.range j)
  simpa [cntB] using this
theorem cntB_all (cs : List Nat) : cntB cs (8 * cs.length) = popL cs := by
  have step : ∀ k, k ≤ cs.length → cntB cs (8 * k) = popL (cs.take k) := by
    intro k
    induction k with
    | zero => intro _; simp [cntB, popL]
    | succ k ih =>
      intro hk
      rw [popL_take cs k (by omega), ← ih (by omega), show 8 * (k + 1) = 8 * k + 1 + 1 + 1 + 1 + 1 + 1 + 1 + 1 from by omega]
      simp only [cntB_succ]
      have e : ∀ s, s < 8 → testB cs (8 * k + s) = (cs.getD k 0).testBit s := by
        intro s hs
        unfold testB
        rw [show (8 * k + s) / 8 = k from by omega, show (8 * k + s) % 8 = s from by omega]
      have p8 : popB (cs.getD k 0) = (if (cs.getD k 0).testBit 0 then 1 else 0) + (if (cs.getD k 0).testBit 1 then 1 else 0) + (if (cs.getD k 0).testBit 2 then 1 else 0) + (if (cs.getD k 0).testBit 3 then 1 else 0) + (if (cs.getD k 0).testBit 4 then 1 else 0) + (if (cs.getD k 0).testBit 5 then 1 else 0) + (if (cs.getD k 0).testBit 6 then 1 else 0) + (if (cs.getD k 0).testBit 7 then 1 else 0) := by
        generalize cs.getD k 0 = x
        show (List.range 8).countP _ = _
        rw [show List.range 8 = [0, 1, 2, 3, 4, 5, 6, 7] from by decide]
        simp only [List.countP_cons, List.countP_nil]
        omega
      have e0 := e 0 (by omega)
      rw [Nat.add_zero] at e0
      simp only [Nat.add_assoc, e0, e 1 (by omega), e 2 (by omega), e 3 (by omega), e 4 (by omega), e 5 (by omega), e 6 (by omega), e 7 (by omega)]
      omega
  have := step cs.length (Nat.le_refl _)
  rwa [List.take_length] at this
set_option maxRecDepth 100000 in
set_option maxHeartbeats 1600000 in
theorem plays_yes (N E : Nat) (a a' : Option Addr) (c c' : Nat) (ks : List (List Nat)) (l : List Nat) (w : World) (h : IsRows w (.slice a ks.length c) ks) (h' : IsBytes w (.slice a' l.length c') l) (ht : TabOk w) (hs : smallB ks = true) (hl : (l.length : Int) ≤ 500) (hN : N ≤ 65536) (h1 : 1 ≤ E) (h2 : E ≤ 32) :
    Calls Tryd.prog 4 #[.agg #[.int .i64 N, .int .i64 E, .slice a ks.length c, .slice a' l.length c']] w fun e w' => e = .returned (.bool true) ∧ Below w.heap.size w w' := by
  have h60 := smallB_iff hs
  have hcm : c ≤ 9223372036854775807 ∧ ks.length ≤ c := by
    obtain ⟨a', c', e, g1, g2, _⟩ := h
    injection e with e1 e2 e3
    subst e3
    unfold maxLen at g2
    exact ⟨by omega, g1⟩
  obtain ⟨hcm, hcl⟩ := hcm
  have q1 : decide ((N : Int) < 0) = false := by simp
  have q2 : decide ((65536 : Int) < (N : Int)) = false := by simp; omega
  have q3 : decide ((E : Int) < 1) = false := by simp; omega
  have q4 : decide ((32 : Int) < (E : Int)) = false := by simp; omega
  have HS : Hid (∀ ka kn kc j, j < ks.length → IsBytes w (.slice ka kn kc) (ks.getD j []) → kn = (ks.getD j []).length ∧ kn ≤ 140737488355328) := by
    intro ka kn kc j hj hb
    obtain ⟨-, _, _, e, g1, g2, -⟩ := hb
    injection e with e1 e2 e3
    have := smallB_le hs hj
    exact ⟨e2, by omega⟩
  have hb0 : Below w.heap.size w (w.alloc (.cells #[.int .i64 N, .int .i64 E, .slice a ks.length c, .slice a' l.length c'] 35)) := (Below.refl _ _).alloc (Nat.le_refl _) _
  have hcz : ∀ i v, (#[.int .i64 N, .int .i64 E, .slice a ks.length c, .slice a' l.length c'] : Array Value)[i]? = some v → (w.alloc (.cells #[.int .i64 N, .int .i64 E, .slice a ks.length c, .slice a' l.length c'] 35)).cell? ⟨w.heap.size, i, none⟩ = some v := by
    intro i v hv
    rw [cell_of_blk (World.alloc_heap_new w _)]; exact hv
  have Ht := Lib.hid ht
  have H := Lib.hid h
  have H' := Lib.hid h'
  have Hs := Lib.hid hs
  have Hb0 := Lib.hid hb0
  have Hcz := Lib.hid hcz
  clear ht hs h h' hb0 hcz
  go_enter Tryd.func4, Tryd.ntmps4
  go_wp2_with fail
  refine (small_any _ ks _ (H.out.below Hb0.out)).mono ?_
  rintro e w' ⟨rfl, rfl⟩
  rw [Hs.out]
  go_wp2_with fail
  have hsz0 : (w.alloc (.cells #[.int .i64 N, .int .i64 E, .slice a ks.length c, .slice a' l.length c'] 35)).heap.size = w.heap.size + 1 := by simp
  generalize hW0 : w.alloc (.cells #[.int .i64 N, .int .i64 E, .slice a ks.length c, .slice a' l.length c'] 35) = W0 at *
  have Hsz0 := Lib.hid hsz0
  clear hW0 hsz0
  have hW0s : w.heap.size ≤ W0.heap.size := Hb0.out.size
  refine (new_yes N E W0 hN h1 h2).mono ?_
  rintro e w1 ⟨rfl, hf1, hb1, hs1⟩
  have hz0 := Lib.hid Hcz.out
  have z0 : w1.cell? ⟨w.heap.size, 0, none⟩ = some (.int .i64 N) := by rw [hb1.cell (block_lt_of_cell (Hcz.out 0 _ rfl))]; exact Hcz.out 0 _ rfl
  have z1 : w1.cell? ⟨w.heap.size, 1, none⟩ = some (.int .i64 E) := by rw [hb1.cell (block_lt_of_cell (Hcz.out 1 _ rfl))]; exact Hcz.out 1 _ rfl
  have Hf1 := Lib.hid hf1
  have hbw1 : Below w.heap.size w w1 := Hb0.out.trans (hb1.mono hW0s)
  have Hb1 := Lib.hid hb1
  have hs1' : w.heap.size ≤ w1.heap.size := hbw1.size
  have Hs1 := Lib.hid hs1
  clear hf1 hb1 hs1
  go_wp2_with fail
  refine (refnew_any N E w1 hN h1 h2).mono ?_
  rintro e w2 ⟨rfl, hr2, hb2⟩
  have hbw2 : Below w.heap.size w w2 := hbw1.trans (hb2.mono hs1')
  have hw2s : w.heap.size ≤ w2.heap.size := hbw2.size
  have hbz : Below W0.heap.size W0 w2 := Hb1.out.trans (hb2.mono Hb1.out.size)
  have Hf2 := Lib.hid (Hf1.out.below (B := 0) hb2)
  have Hr2 := Lib.hid hr2
  have Hz2 : Hid (∀ i v, (#[.int .i64 N, .int .i64 E, .slice a ks.length c, .slice a' l.length c'] : Array Value)[i]? = some v → w2.cell? ⟨w.heap.size, i, none⟩ = some v) := by
    intro i v hv
    have := Hcz.out i v hv
    rw [hbz.cell (block_lt_of_cell this)]; exact this
  have z2 : w2.cell? ⟨w.heap.size, 2, none⟩ = some (.slice a ks.length c) := Hz2.out 2 _ rfl
  have hl1 : (List.replicate (newLen N E) 0).length = newLen N E := by simp
  have hNle := newLen_le N E hN h2
  generalize newLen N E = L at *
  generalize newProbes E = p at *
  generalize List.replicate L 0 = cs0 at *
  obtain ⟨fb, hfb⟩ : ∃ fb, fb = W0.heap.size + 1 := ⟨_, rfl⟩
  obtain ⟨gb, hgb⟩ : ∃ gb, gb = W0.heap.size := ⟨_, rfl⟩
  obtain ⟨fx, hfx⟩ : ∃ fx, fx = w1.heap.size + 1 := ⟨_, rfl⟩
  obtain ⟨gx, hgx⟩ : ∃ gx, gx = w1.heap.size := ⟨_, rfl⟩
  rw [← hfb, ← hgb] at Hf2
  rw [← hfx, ← hgx] at Hr2
  rw [← hfb, ← hfx]
  have hfb1 : w.heap.size < fb := by rw [hfb]; have := Hsz0.out; omega
  have hgb1 : w.heap.size < gb := by rw [hgb]; have := Hsz0.out; omega
  have hfg : fb < gx ∧ gb < gx ∧ gx < fx := by have := Hs1.out; omega
  have hlt2 := Hr2.out.lt
  have HL1 := Lib.hid hl1
  clear hl1 hfb hgb hfx hgx hr2 hb2 hbz hbw1 z0 z1
  go_wp2_with fail
  go_loopw [75] (fun i wr => ∃ (k : Nat) (cs : List Nat), k ≤ ks.length ∧ i = .int .i64 k ∧ IsFilter wr fb gb L cs p ∧ IsRef wr fx gx cs p ∧ Below w.heap.size w wr ∧ (∀ i v, (#[.int .i64 N, .int .i64 E, .slice a ks.length c, .slice a' l.length c'] : Array Value)[i]? = some v → wr.cell? ⟨w.heap.size, i, none⟩ = some v) ∧ w2.heap.size ≤ wr.heap.size) (fun i _ => ks.length - (intOf i).toNat)
  case atStart => exact ⟨0, cs0, Nat.zero_le _, rfl, Hf2.out, Hr2.out, hbw2, Hz2.out, Nat.le_refl _⟩
  case round =>
    obtain ⟨k, cs, hk, rfl, hf, hr, hb, hz, hsz⟩ := hrel
    have Hf := Lib.hid hf
    have Hr := Lib.hid hr
    have Hz := Lib.hid hz
    have hwr : w.heap.size ≤ wr.heap.size := hb.size
    clear hf hr hz z2
    by_cases hlt : k < ks.length
    · obtain ⟨-, b, off, rfl, ka, kn, kc, hx0, hk0⟩ := H.out.at hlt
      have hx : wr.cell? ⟨b, off + k, none⟩ = some (.slice ka kn kc) := by rw [hb.cell (block_lt_of_cell hx0)]; exact hx0
      have hz2 : wr.cell? ⟨w.heap.size, 2, none⟩ = some (.slice (some ⟨b, off, none⟩) ks.length c) := Hz.out 2 _ rfl
      obtain ⟨hkn, hkn2⟩ := HS.out ka kn kc k hlt hk0
      have Hkn := Lib.hid hkn
      have Hk0 := Lib.hid hk0
      have hlt3 := Hr.out.lt
      have hflt := Hf.out.lt
      obtain ⟨key, hkey⟩ : ∃ key, key = ks.getD k [] := ⟨_, rfl⟩
      rw [← hkey] at Hk0 Hkn
      have Hkey := Lib.hid hkey
      clear hx0 hk0 hkn hkey
      go_wp2_with fail
      refine (copy_any _ key wr (Hk0.out.below hb) (by rw [← Hkn.out]; omega)).mono ?_
      rintro e w5 ⟨iv, rfl, ho, hbc⟩
      have hb5 : Below w.heap.size w w5 := hb.trans (hbc.mono hwr)
      have hw5 : wr.heap.size ≤ w5.heap.size := hbc.size
      have g5 := isBytes_own ho Hk0.out.1
      obtain ⟨-, ia, ic, rfl, -, -, -⟩ := g5
      have Ho := Lib.hid ho
      have Hf5 := Lib.hid (Hf.out.below (B := 0) hbc)
      have Hr5 := Lib.hid (Hr.out.below hbc)
      have Hb5 := Lib.hid hb5
      have hkeep : ∀ W' : World, w5.grownBy W' (some gb) → IsBytes W' (.slice ia key.length ic) key ∧ TabOk W' := fun W' hg =>
        ⟨isBytes_own (own_grown_far Ho.out hg (fun r e => by cases e; omega)) Hk0.out.1, Ht.out.below (Hb5.out.trans (grown_below hg (by omega) (by omega)))⟩
      have Hz5 : Hid (∀ i v, (#[.int .i64 N, .int .i64 E, .slice (some ⟨b, off, none⟩) ks.length c, .slice a' l.length c'] : Array Value)[i]? = some v → w5.cell? ⟨w.heap.size, i, none⟩ = some v) := by
        intro i v hv
        have := Hz.out i v hv
        rw [hbc.cell (block_lt_of_cell this)]; exact this
      have HA := Lib.hid (add_keep w5 ia key.length ic key fb gb L cs p Hf5.out hkeep)
      clear ho hbc hb5 hkeep
      go_wp2_with fail
      refine HA.out.mono ?_
      rintro e w6 ⟨⟨v6, rfl⟩, hf6, hg6⟩
      have hb6 : Below w.heap.size w w6 := Hb5.out.trans (grown_below hg6 (by omega) (by omega))
      have hw6 : w5.heap.size ≤ w6.heap.size := hg6.size
      have Hf6 := Lib.hid hf6
      have Hr6 := Lib.hid (Hr5.out.grown hg6 (by simp; omega) (by simp; omega))
      have Ho6 := Lib.hid (own_grown_far Ho.out hg6 (fun r e => by cases e; omega))
      have Hb6 := Lib.hid hb6
      have Hz6 : Hid (∀ i v, (#[.int .i64 N, .int .i64 E, .slice (some ⟨b, off, none⟩) ks.length c, .slice a' l.length c'] : Array Value)[i]? = some v → w6.cell? ⟨w.heap.size, i, none⟩ = some v) := by
        intro i v hv
        exact cell_grown hg6 (Hz5.out i v hv) (by show w.heap.size ≠ gb; omega)
      clear hf6 hg6 hb6 HA
      go_wp2_with fail
      refine (refadd_any w6 _ key fx gx cs p (Hk0.out.below Hb6.out) Hr6.out).mono ?_
      rintro e w7 ⟨⟨v7, rfl⟩, hr7, hg7⟩
      have hb7 : Below w.heap.size w w7 := Hb6.out.trans (grown_below hg7 (by omega) (by omega))
      have hw7 : w6.heap.size ≤ w7.heap.size := hg7.size
      have Hr7 := Lib.hid hr7
      have Hf7 := Lib.hid (Hf6.out.grown' hg7 (by simp; omega) (by simp; omega))
      have Ho7 := Lib.hid (own_grown_far Ho6.out hg7 (fun r e => by cases e; omega))
      have Hb7 := Lib.hid hb7
      have hw7' : w2.heap.size ≤ w7.heap.size := by omega
      have Hz7 : Hid (∀ i v, (#[.int .i64 N, .int .i64 E, .slice (some ⟨b, off, none⟩) ks.length c, .slice a' l.length c'] : Array Value)[i]? = some v → w7.cell? ⟨w.heap.size, i, none⟩ = some v) := by
        intro i v hv
        exact cell_grown hg7 (Hz6.out i v hv) (by show w.heap.size ≠ gx; omega)
      clear hr7 hg7 hb7
      go_wp2_with fail
      refine (same_true _ _ key w7 (isBytes_own Ho7.out Hk0.out.1) (Hk0.out.below Hb7.out)).mono ?_
      rintro e w' ⟨rfl, rfl⟩
      go_wp2
      go_roundw
      case rel => exact ⟨k + 1, _, by omega, by go_num, Hf7.out, Hr7.out, Hb7.out, Hz7.out, hw7'⟩
      case measure => simp [intOf]; omega
    · obtain rfl : k = ks.length := by omega
      obtain ⟨n, hn⟩ : ∃ n, n = 8 * cs.length := ⟨_, rfl⟩
      have x0 : wr.cell? ⟨fx, 0, none⟩ = some (.slice (some ⟨gx, 0, none⟩) n n) := by rw [cell_of_blk Hr.out.blk, hn]; rfl
      have x1 : wr.cell? ⟨fx, 1, none⟩ = some (.int .i64 p) := by rw [cell_of_blk Hr.out.blk]; rfl
      have Hbit : Hid (∀ j, j < n → wr.cell? ⟨gx, j, none⟩ = some (.bool (testB cs j))) := by
        intro j hj
        rw [cell_of_blk Hr.out.arr, List.getElem?_toArray, onCells_get _ _ (by omega)]
      have hcnt := cntB_all cs
      rw [← hn] at hcnt
      have hmost := Hr.out.most
      have hpos := Hr.out.pos
      have hn16 : n ≤ 16777216 := by omega
      have Hcnt := Lib.hid hcnt
      have Hn := Lib.hid hn
      clear hcnt hn
      have h00 : Hid (cntB cs 0 = 0) := rfl
      go_wp2_with fail
      go_loop [9, 97] (fun s i => ∃ j : Nat, j ≤ n ∧ i = .int .i64 j ∧ s = .int .i64 (cntB cs j : Nat)) (fun _ i => n - (intOf i).toNat)
      case atStart => exact ⟨0, Nat.zero_le _, rfl, by rw [h00.out]; rfl⟩
      case round =>
        obtain ⟨j, hj, rfl, rfl⟩ := hrel
        have hcl := cntB_le cs j
        by_cases hjn : j < n
        · have hb := Hbit.out j hjn
          have hsucc := cntB_succ cs j
          cases hT : testB cs j with
          | false =>
            rw [hT] at hb hsucc
            have Hsucc : Hid (cntB cs (j + 1) = cntB cs j) := hsucc
            clear hT hsucc
            go_wp2
            go_round
            case rel => exact ⟨j + 1, by omega, by go_num, by rw [Hsucc.out]⟩
            case measure => simp [intOf]; omega
          | true =>
            rw [hT] at hb hsucc
            have Hsucc : Hid (cntB cs (j + 1) = cntB cs j + 1) := hsucc
            clear hT hsucc
            go_wp2
            go_round
            case rel => exact ⟨j + 1, by omega, by go_num, by rw [Hsucc.out]; go_num⟩
            case measure => simp [intOf]; omega
        · obtain rfl : j = n := by omega
          rw [Hcnt.out]
          clear hcl
          go_wp2_with fail
          have hd : Below wr.heap.size wr wr.drew := (Below.refl _ _).drew
          have hbd : Below w.heap.size w wr.drew := hb.drew
          have y0 : wr.drew.cell? ⟨fx, 0, none⟩ = some (.slice (some ⟨gx, 0, none⟩) j j) := by rw [hd.cell (block_lt_of_cell x0)]; exact x0
          have y1 : wr.drew.cell? ⟨fx, 1, none⟩ = some (.int .i64 p) := by rw [hd.cell (block_lt_of_cell x1)]; exact x1
          have y3 : wr.drew.cell? ⟨w.heap.size, 3, none⟩ = some (.slice a' l.length c') := by
            have : wr.cell? ⟨w.heap.size, 3, none⟩ = some (.slice a' l.length c') := Hz.out 3 _ rfl
            rw [hd.cell (block_lt_of_cell this)]; exact this
          have Hfd := Lib.hid (Hf.out.below (B := 0) hd)
          have Hrd := Lib.hid (Hr.out.below hd)
          have cB : Hid (Calls Tryd.prog 14 #[.pointer (some ⟨fb, 0, none⟩)] wr.drew fun e w' => e = .returned (.int .i64 j) ∧ wr.drew = w') := by
            have := bits_any _ _ _ _ _ _ Hfd.out
            rw [← Hn.out] at this
            exact this
          have cQ : Hid (Calls Tryd.prog 20 #[.pointer (some ⟨fb, 0, none⟩)] wr.drew fun e w' => e = .returned (.int .i64 p) ∧ wr.drew = w') := probes_any _ _ _ _ _ _ Hfd.out
          have cS : Hid (Calls Tryd.prog 13 #[.pointer (some ⟨fb, 0, none⟩)] wr.drew fun e w' => e = .returned (.int .i64 (popL cs : Nat)) ∧ wr.drew = w') := set_any _ _ _ _ _ _ Hfd.out
          have cH : Hid (Calls Tryd.prog 15 #[.pointer (some ⟨fb, 0, none⟩), .slice a' l.length c'] wr.drew fun e w' => e = .returned (.bool (hasL cs (keyPlaces l j p))) ∧ Below wr.heap.size wr.drew w') := by
            have := has_any wr.drew a' l.length c' l (H'.out.below hbd) (Ht.out.below hbd) fb gb L cs p Hfd.out
            rw [← Hn.out] at this
            exact this
          have cR : Hid (∀ w8, Below wr.heap.size wr.drew w8 → Calls Tryd.prog 21 #[.pointer (some ⟨fx, 0, none⟩), .slice a' l.length c'] w8 fun e w' => e = .returned (.bool (hasL cs (keyPlaces l j p))) ∧ Below w8.heap.size w8 w') := by
            intro w8 h8
            have := refhas_any w8 _ l fx gx cs p (H'.out.below (hbd.trans (h8.mono hwr))) (Hrd.out.below h8)
            rw [← Hn.out] at this
            exact this
          have K8 : Hid (∀ w8, Below wr.heap.size wr.drew w8 → w8.cell? ⟨fx, 0, none⟩ = some (.slice (some ⟨gx, 0, none⟩) j j) ∧ w8.cell? ⟨fx, 1, none⟩ = some (.int .i64 p) ∧ w8.cell? ⟨w.heap.size, 3, none⟩ = some (.slice a' l.length c')) := by
            intro w8 h8
            have h8' : Below wr.drew.heap.size wr.drew w8 := h8
            exact ⟨(h8'.cell (block_lt_of_cell y0)).trans y0, (h8'.cell (block_lt_of_cell y1)).trans y1, (h8'.cell (block_lt_of_cell y3)).trans y3⟩
          have K9 : Hid (∀ w8 w9, Below wr.heap.size wr.drew w8 → Below w8.heap.size w8 w9 → Below wr.heap.size wr.drew w9) := fun w8 w9 h8 h9 => h8.trans (h9.mono h8.size)
          generalize hasL cs (keyPlaces l j p) = A at *
          generalize popL cs = z at *
          have hAA : (A != A) = false := by simp
          clear x0 x1
          go_region_held3 (fun w' => w'.cell? ⟨fx, 0, none⟩ = some (.slice (some ⟨gx, 0, none⟩) j j) ∧ w'.cell? ⟨fx, 1, none⟩ = some (.int .i64 p) ∧ w'.cell? ⟨w.heap.size, 3, none⟩ = some (.slice a' l.length c'))
            (first | go_keep | exact K8.out _ hb8 | exact K8.out _ (K9.out _ _ hb8 hb9))
            ((first | (go_at_call 20; (with_reducible refine cQ.out.mono ?_); rintro e w' ⟨rfl, rfl⟩) | (go_at_call 14; (with_reducible refine cB.out.mono ?_); rintro e w' ⟨rfl, rfl⟩) | (go_at_call 13; (with_reducible refine cS.out.mono ?_); rintro e w' ⟨rfl, rfl⟩) | (go_at_call 15; (with_reducible refine cH.out.mono ?_); rintro e w8 ⟨rfl, hb8⟩) | (go_at_call 21; (with_reducible refine (cR.out _ hb8).mono ?_); rintro e w9 ⟨rfl, hb9⟩)))
          have hb89 := K9.out w8 w9 hb8 hb9
          have hbw9 : Below w.heap.size w w9 := hbd.trans (hb89.mono hwr)
          have hsw9 : w.heap.size ≤ w9.heap.size := hbw9.size
          have hwr9 : wr.heap.size ≤ w9.heap.size := hb89.size
          have Hf9 := Lib.hid (Hfd.out.below (B := 0) hb89)
          have Hr9 := Lib.hid (Hrd.out.below hb89)
          have v0 := (K8.out _ hb89).1
          have Hb9 := Lib.hid hbw9
          clear hb8 hb9 hb89 hbw9 cB cQ cS cH cR hd hbd K8 K9 y0 y1 y3
          by_cases h5 : (5000 : Int) < (j : Int)
          · go_wp2_with fail
            refine (awake_any w9 (Ht.out.below Hb9.out)).mono ?_
            rintro e w' ⟨rfl, hb'⟩
            go_wp2
            go_ret
            exact ⟨rfl, Hb9.out.trans (hb'.mono hsw9)⟩
          · go_wp2_with fail
            refine (bytes_any _ _ _ _ _ _ Hf9.out).mono ?_
            rintro e w10 ⟨y, rfl, ho10, hb10⟩
            obtain ⟨g, cg, rfl, hgg⟩ := own_form ho10 (by simp)
            have Ho10 := Lib.hid ho10
            have h10s : w9.heap.size ≤ w10.heap.size := hb10.size
            have Hb10 := Lib.hid (Hb9.out.trans (hb10.mono hsw9))
            have Hf10 := Lib.hid (Hf9.out.below (B := 0) hb10)
            have Hr10 := Lib.hid (Hr9.out.below hb10)
            have P8 := Lib.hid (byte_cons Hf9.out.p30.2 Hf9.out.b8)
            have hn1 : (p :: cs).length = cs.length + 1 := rfl
            obtain ⟨n1, e1⟩ : ∃ n1, n1 = (p :: cs).length := ⟨_, rfl⟩
            rw [← e1] at Ho10 ⊢
            have hn1b : 0 < n1 ∧ n1 ≤ 2097153 := by omega
            have E1 := Lib.hid e1
            clear ho10 hb10 hn1 e1
            go_wp2_with fail
            refine (refbytes_any w10 fx gx cs p Hr10.out).mono ?_
            rintro e w11 ⟨y, rfl, ho11, hb11⟩
            have h11s : w10.heap.size ≤ w11.heap.size := hb11.size
            have Hy := Lib.hid (isBytes_own ho11 P8.out)
            have Ho11 := Lib.hid (own_below Ho10.out hb11)
            have Hx : Hid (IsBytes w11 (.slice (some ⟨g, 0, none⟩) n1 cg) (p :: cs)) := by
              have := Ho11.out
              rw [E1.out] at this ⊢
              exact isBytes_own this P8.out
            have Hb11 := Lib.hid (Hb10.out.trans (hb11.mono (by omega)))
            have Hf11 := Lib.hid (Hf10.out.below (B := 0) hb11)
            have Hr11 := Lib.hid (Hr10.out.below hb11)
            have hl11 := Hr11.out.lt
            have hf11 := Hf11.out.lt
            have hl9 := Hr9.out.lt
            have hf9 := Hf9.out.lt
            clear ho11 hb11
            go_wp2_with fail
            refine (same_true _ _ (p :: cs) w11 Hx.out Hy.out).mono ?_
            rintro e w' ⟨rfl, rfl⟩
            go_wp2_with fail
            have hstart : w11.grownBy w11 (some g) ∧ ∃ cur, w11.heap[g]? = some (.cells cur 5 (0, 0)) ∧ ∀ t, t < n1 → ∃ z : Int, cur[t]? = some (.int .u8 z) := by
              refine ⟨World.grownBy.refl _ _, ?_⟩
              obtain ⟨cur, hh, h1, h2, h3, h4⟩ := own_blk Ho11.out
              refine ⟨cur, hh, fun t ht => ⟨((p :: cs).getD t 0 : Nat), ?_⟩⟩
              have htl : t < (p :: cs).length := by rw [← E1.out]; exact ht
              have : (cur.toList.take n1)[t]? = some (.int .u8 ((p :: cs).getD t 0 : Nat)) := by
                rw [h4, cellsOfL, List.getElem?_map, List.getElem?_eq_getElem htl, List.getD_eq_getElem?_getD, List.getElem?_eq_getElem htl]; rfl
              rw [List.getElem?_take_of_lt ht] at this
              simpa using this
            have Hstart := Lib.hid hstart
            clear hstart
            go_loopw [154] (fun i wr => ∃ k : Nat, k ≤ n1 ∧ i = .int .i64 k ∧ w11.grownBy wr (some g) ∧ ∃ cur, wr.heap[g]? = some (.cells cur 5 (0, 0)) ∧ ∀ t, t < n1 → ∃ z : Int, cur[t]? = some (.int .u8 z)) (fun i _ => n1 - (intOf i).toNat)
            case atStart => exact ⟨0, Nat.zero_le _, rfl, Hstart.out⟩
            case round =>
              obtain ⟨k, hk, rfl, hg, cur, hcur, hall⟩ := hrel
              by_cases hkn : k < n1
              · obtain ⟨z1, hz1⟩ := hall k hkn
                have Hz1 := Lib.hid hz1
                have c1 := (cell_of_blk hcur k).trans hz1
                have c2 := frozen_of_blk hcur k
                have Hcur := Lib.hid hcur
                have Hall := Lib.hid hall
                have Hg := Lib.hid hg
                clear hz1 hcur hall hg
                go_wp2
                go_roundw
                case rel => exact ⟨k + 1, by omega, by go_num, Hg.out.trans (grown_setCell' _ _ _ _), _, blk_setCell Hcur.out, set_ints Hall.out⟩
                case measure => simp [intOf]; omega
              · obtain rfl : k = n1 := by omega
                have hbq : Below w.heap.size w wr := Hb11.out.trans (grown_below hg (by omega) (by omega))
                have hsq : w.heap.size ≤ wr.heap.size := hbq.size
                have HfQ := Lib.hid (Hf11.out.grown' hg (by simp; omega) (by simp; omega))
                have HrQ := Lib.hid (Hr11.out.grown hg (by simp; omega) (by simp; omega))
                have HbQ := Lib.hid hbq
                clear hcur hall hg hbq v0
                go_wp2_with fail
                refine (bytes_any _ _ _ _ _ _ HfQ.out).mono ?_
                rintro e w12 ⟨y, rfl, ho12, hb12⟩
                have HyA := Lib.hid (isBytes_own ho12 P8.out)
                have hb12' : Below w.heap.size w w12 := HbQ.out.trans (hb12.mono hsq)
                have hs12 : w.heap.size ≤ w12.heap.size := hb12'.size
                have Hr12 := Lib.hid (HrQ.out.below hb12)
                have Hb12 := Lib.hid hb12'
                clear ho12 hb12 hb12'
                go_wp2_with fail
                refine (refbytes_any w12 fx gx cs p Hr12.out).mono ?_
                rintro e w13 ⟨y', rfl, ho13, hb13⟩
                have HyB := Lib.hid (isBytes_own ho13 P8.out)
                have HyA13 := Lib.hid (HyA.out.below hb13)
                have hb13' : Below w.heap.size w w13 := Hb12.out.trans (hb13.mono hs12)
                have hs13 : w.heap.size ≤ w13.heap.size := hb13'.size
                have Hb13 := Lib.hid hb13'
                clear ho13 hb13 hb13'
                go_wp2_with fail
                refine (same_true _ _ (p :: cs) w13 HyA13.out HyB.out).mono ?_
                rintro e w' ⟨rfl, rfl⟩
                go_wp2_with fail
                refine (awake_any w13 (Ht.out.below Hb13.out)).mono ?_
                rintro e w' ⟨rfl, hb'⟩
                go_wp2
                go_ret
                exact ⟨rfl, Hb13.out.trans (hb'.mono hs13)⟩
theorem bloomPlays_walk (N E : Int) (v v' : Value) (ks : List (List Nat)) (l : List Nat) (w : World) (h : IsRows w v ks) (h' : IsBytes w v' l) (ht : TabOk w) :
    Calls Tryd.prog 4 #[.agg #[.int .i64 N, .int .i64 E, v, v']] w fun e w' => e = .returned (.bool true) ∧ Below w.heap.size w w' := by
  cases hs : smallB ks with
  | false => exact plays_small N E v v' ks l w h h' ht (.inl hs)
  | true =>
    by_cases hl : (500 : Int) < l.length
    · exact plays_small N E v v' ks l w h h' ht (.inr ⟨hs, hl⟩)
    · by_cases hn : N < 0 ∨ 65536 < N ∨ E < 1 ∨ 32 < E
      · exact plays_no N E v v' ks l w h h' ht hs (by omega) hn
      · obtain ⟨n, rfl⟩ : ∃ n : Nat, N = n := ⟨N.toNat, by omega⟩
        obtain ⟨e, rfl⟩ : ∃ e : Nat, E = e := ⟨E.toNat, by omega⟩
        have g := h
        have g' := h'
        obtain ⟨a, c, rfl, -, -, -⟩ := g
        obtain ⟨-, a', c', rfl, -, -, -⟩ := g'
        exact plays_yes n e a a' c c' ks l w h h' ht hs (by omega) (by omega) (by omega) (by omega)
end Go.Proofs.YtkdipflmmlnbpaaDoor.Tithe
