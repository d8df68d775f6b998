/- The law BloomOrder, walked. -/
import Derived.Test.YtkdipflmmlnbpaaDoorBloomKeeps
namespace Go.Proofs.YtkdipflmmlnbpaaDoor.Tithe
open Go.RowKit Go.Sort Go.Shelf
set_option linter.unusedVariables false
/-! ### the plain law -/
theorem addL_same {bs L M : List Nat} (h8 : ∀ x ∈ bs, x < 256) (hL : ∀ i ∈ L, i < 8 * bs.length) (hM : ∀ i ∈ M, i < 8 * bs.length) (h : ∀ i, i ∈ L ↔ i ∈ M) : addL bs L = addL bs M := by
  apply ext_bits (by rw [addL_length, addL_length]) (addL_byte _ _ h8) (addL_byte _ _ h8)
  intro j _
  rw [testB_addL L bs j hL, testB_addL M bs j hM]
  simp only [h]
theorem IsFilter.grown {W W' : World} {fb gb cap : Nat} {bs : List Nat} {p g : Nat} (h : IsFilter W fb gb cap bs p) (hg : W.grownBy W' (some g)) (h1 : fb ≠ g) (h2 : gb ≠ g) : IsFilter W' fb gb cap bs p :=
  h.keep (hg.block _ h.lt.1 (fun e => h1 (Option.some.inj e))) (hg.block _ h.lt.2 (fun e => h2 (Option.some.inj e)))
theorem order_small (v : Value) (ks : List (List Nat)) (a1 : Int) (w : World) (h : IsRows w v ks) (ht : TabOk w) (hs : smallB ks = false) :
    Calls Tryd.prog 5 #[v, .int .i64 a1] w fun e w' => e = .returned (.bool true) ∧ Below w.heap.size w w' := by
  have Ht := Lib.hid ht
  have H := Lib.hid h
  have Hs := Lib.hid hs
  clear ht h hs
  go_enter Tryd.func5, Tryd.ntmps5
  go_wp2_with fail
  refine (small_any v ks w H.out).mono ?_
  rintro e w' ⟨rfl, rfl⟩
  rw [Hs.out]
  go_wp2_with fail
  refine (awake_any w Ht.out).mono ?_
  rintro e w' ⟨rfl, hb⟩
  go_wp2
  go_ret
  exact ⟨rfl, hb⟩
theorem order_no (a : Option Addr) (c : Nat) (ks : List (List Nat)) (a1 : Int) (w : World) (h : IsRows w (.slice a ks.length c) ks) (ht : TabOk w) (hs : smallB ks = true) (h1 : a1 < 1 ∨ 32 < a1) :
    Calls Tryd.prog 5 #[.slice a ks.length c, .int .i64 a1] w fun e w' => e = .returned (.bool true) ∧ Below w.heap.size w w' := by
  have Ht := Lib.hid ht
  have H := Lib.hid h
  have Hs := Lib.hid hs
  have H1 := Lib.hid h1
  clear ht h hs h1
  have hq : decide (a1 < 1) = true ∨ (decide (a1 < 1) = false ∧ decide (32 < a1) = true) := by
    by_cases q : a1 < 1
    · exact .inl (decide_eq_true q)
    · exact .inr ⟨decide_eq_false q, decide_eq_true (by have := H1.out; omega)⟩
  rcases hq with q | ⟨q, q'⟩
  all_goals
    go_enter Tryd.func5, Tryd.ntmps5
    go_wp2_with fail
    refine (small_any _ ks w H.out).mono ?_
    rintro e w' ⟨rfl, rfl⟩
    rw [Hs.out]
    go_wp2_with fail
    refine (new_no ks.length a1 w (.inr (.inr H1.out))).mono ?_
    rintro e w' ⟨rfl, rfl⟩
    go_wp2_with fail
    refine (new_no ks.length a1 w (.inr (.inr H1.out))).mono ?_
    rintro e w' ⟨rfl, rfl⟩
    go_wp2_with fail
    refine (awake_any w Ht.out).mono ?_
    rintro e w' ⟨rfl, hb⟩
    go_wp2
    go_ret
    exact ⟨rfl, hb⟩
def PL (ks : List (List Nat)) (N p j : Nat) : List Nat := keyPlaces (ks.getD j []) (8 * N) p
theorem order_yes (a : Option Addr) (c : Nat) (ks : List (List Nat)) (a1 : Nat) (w : World) (h : IsRows w (.slice a ks.length c) ks) (ht : TabOk w) (hs : smallB ks = true) (h1 : 1 ≤ a1) (h2 : a1 ≤ 32) :
    Calls Tryd.prog 5 #[.slice a ks.length c, .int .i64 a1] w fun e w' => e = .returned (.bool true) ∧ Below w.heap.size w w' := by
  have Ht := Lib.hid ht
  have H := Lib.hid h
  have Hs := Lib.hid hs
  have h60 := smallB_iff hs
  have hcm : c ≤ 9223372036854775807 ∧ ks.length ≤ c := by
    obtain ⟨a', c', e, g1, g2, _⟩ := h
    injection e with e1 e2 e3
    subst e3
    unfold maxLen at g2
    exact ⟨by omega, g1⟩
  obtain ⟨hcm, hcl⟩ := hcm
  clear ht h hs
  go_enter Tryd.func5, Tryd.ntmps5
  go_wp2_with fail
  refine (small_any _ ks w H.out).mono ?_
  rintro e w' ⟨rfl, rfl⟩
  rw [Hs.out]
  go_wp2_with fail
  refine (new_yes ks.length a1 w (by omega) h1 h2).mono ?_
  rintro e w1 ⟨rfl, hf1, hb1, hs1⟩
  have HF1 := Lib.hid hf1
  have HS1 := Lib.hid hs1
  clear hf1 hs1
  go_wp2_with fail
  refine (new_yes ks.length a1 w1 (by omega) h1 h2).mono ?_
  rintro e w1' ⟨rfl, hg1, hb1', hs1'⟩
  have hf1' := HF1.out.below (B := 0) hb1'
  have hbb : Below w.heap.size w w1' := hb1.trans (hb1'.mono hb1.size)
  rw [HS1.out] at hg1 ⊢
  have h80 : ∀ x ∈ List.replicate (newLen ks.length a1) 0, x < 256 := fun x hx => by rw [List.eq_of_mem_replicate hx]; decide
  have hl1 : (List.replicate (newLen ks.length a1) 0).length = newLen ks.length a1 := by simp
  have hNle := newLen_le ks.length a1 (by omega) h2
  clear HF1 hb1'
  generalize newLen ks.length a1 = N at *
  generalize newProbes a1 = p at *
  generalize List.replicate N 0 = cs0 at *
  have hN0 : 0 < N := by have := hf1'.pos; omega
  have HF1 := Lib.hid hf1'
  have HG1 := Lib.hid hg1
  have HL1 := Lib.hid hl1
  have HS2 := Lib.hid hs1'
  have H80 := Lib.hid h80
  clear hf1' hg1 hl1 hs1' h80
  have HP := Lib.hid (show ∀ j, ∀ i ∈ PL ks N p j, i < 8 * cs0.length from fun j => by rw [HL1.out]; exact places_lt (by omega))
  go_wp2_with fail
  go_loopw [51] (fun i wr => ∃ (k : Nat) (L M : List Nat), k ≤ ks.length ∧ i = .int .i64 k ∧ IsFilter wr (w.heap.size + 1) w.heap.size N (addL cs0 L) p ∧ IsFilter wr (w.heap.size + 2 + 1) (w.heap.size + 2) N (addL cs0 M) p ∧ Below w.heap.size w wr ∧ (∀ i, i ∈ L ↔ ∃ j, j < k ∧ i ∈ PL ks N p j) ∧ (∀ i, i ∈ M ↔ (∃ j, j < k ∧ i ∈ PL ks N p (ks.length - 1 - j)) ∨ (0 < k ∧ i ∈ PL ks N p 0))) (fun i _ => ks.length - (intOf i).toNat)
  case atStart => exact ⟨0, [], [], Nat.zero_le _, rfl, HF1.out, HG1.out, hbb, fun i => by simp, fun i => by simp⟩
  case round =>
    obtain ⟨k, L, M, hk, rfl, hf, hg, hb, hL, hM⟩ := hrel
    have Hf := Lib.hid hf
    have Hg := Lib.hid hg
    have HL := Lib.hid hL
    have HM := Lib.hid hM
    clear hf hg hL hM
    have hwr : w.heap.size ≤ wr.heap.size := hb.size
    by_cases hlt : k < ks.length
    · obtain ⟨-, b, off, rfl, ka, kn, kc, hx0, hk0⟩ := H.out.at hlt
      have hx : wr.cell? ⟨b, off + k, none⟩ = some (.slice ka kn kc) := by rw [hb.cell (block_lt_of_cell hx0)]; exact hx0
      have Hk0 := Lib.hid hk0
      clear hk0 hx0
      obtain ⟨q, hq, hq1⟩ : ∃ q, ks.length - 1 - k = q ∧ k + q + 1 = ks.length := ⟨_, rfl, by omega⟩
      have Hq := Lib.hid hq
      clear hq
      obtain ⟨-, b', off', e, ka', kn', kc', hy0, hy⟩ := H.out.at (k := q) (by omega)
      injection e with e
      injection e with e1 e2
      subst e1 e2
      have Hy := Lib.hid hy
      obtain ⟨-, b', off', e, ka3, kn3, kc3, hz0, hz⟩ := H.out.at (k := 0) (by omega)
      injection e with e
      injection e with e1 e2
      subst e1 e2
      have Hz := Lib.hid hz
      have Hy0 := Lib.hid hy0
      have Hz0 := Lib.hid hz0
      clear hy hz hy0 hz0
      go_wp2_with fail
      refine (add_any w wr hb ka kn kc _ Hk0.out Ht.out _ _ _ _ _ Hf.out (by omega) (by omega)).mono ?_
      rintro e w2 ⟨⟨v, rfl⟩, hf2, hg2⟩
      rw [addL_length, HL1.out, ← addL_append] at hf2
      have hgf2 := Hg.out.grown hg2 (by omega) (by omega)
      have hb2 : Below w.heap.size w w2 := hb.trans (grown_below hg2 (Nat.le_refl _) hwr)
      have Hf2 := Lib.hid hf2
      have Hgf2 := Lib.hid hgf2
      have hwr2 : w.heap.size ≤ w2.heap.size := hb2.size
      have hy2 : w2.cell? ⟨b, off + (ks.length - 1 - k), none⟩ = some (.slice ka' kn' kc') := by rw [Hq.out, hb2.cell (block_lt_of_cell Hy0.out)]; exact Hy0.out
      clear hf2 hgf2 hg2 hx
      go_wp2_with fail
      refine (add_any w w2 hb2 ka' kn' kc' _ Hy.out Ht.out _ _ _ _ _ Hgf2.out (by omega) (by omega)).mono ?_
      rintro e w3 ⟨⟨v3, rfl⟩, hf3, hg3⟩
      rw [addL_length, HL1.out, ← addL_append] at hf3
      have hgf3 := Hf2.out.grown hg3 (by omega) (by omega)
      have hb3 : Below w.heap.size w w3 := hb2.trans (grown_below hg3 (by omega) hwr2)
      have Hf3 := Lib.hid hf3
      have Hgf3 := Lib.hid hgf3
      have hwr3 : w.heap.size ≤ w3.heap.size := hb3.size
      have hz3 : w3.cell? ⟨b, off, none⟩ = some (.slice ka3 kn3 kc3) := by rw [hb3.cell (by have := block_lt_of_cell Hz0.out; exact this)]; exact Hz0.out
      clear hf3 hgf3 hg3 hy2
      go_wp2_with fail
      refine (add_any w w3 hb3 ka3 kn3 kc3 _ Hz.out Ht.out _ _ _ _ _ Hf3.out (by omega) (by omega)).mono ?_
      rintro e w4 ⟨⟨v4, rfl⟩, hf4, hg4⟩
      rw [addL_length, HL1.out, ← addL_append] at hf4
      have hgf4 := Hgf3.out.grown hg4 (by omega) (by omega)
      have hb4 : Below w.heap.size w w4 := hb3.trans (grown_below hg4 (by omega) hwr3)
      have Hf4 := Lib.hid hf4
      have Hgf4 := Lib.hid hgf4
      clear hf4 hgf4 hg4 hz3
      have rL := Lib.hid (show ∀ i, i ∈ L ++ keyPlaces (ks.getD k []) (8 * N) p ↔ ∃ j, j < k + 1 ∧ i ∈ PL ks N p j from by
        intro i
        rw [List.mem_append, HL.out]
        constructor
        · rintro (⟨j, hj, hi⟩ | hi)
          · exact ⟨j, by omega, hi⟩
          · exact ⟨k, by omega, hi⟩
        · rintro ⟨j, hj, hi⟩
          rcases Nat.lt_or_ge j k with g | g
          · exact .inl ⟨j, g, hi⟩
          · obtain rfl : j = k := by omega
            exact .inr hi)
      have rM := Lib.hid (show ∀ i, i ∈ M ++ keyPlaces (ks.getD q []) (8 * N) p ++ keyPlaces (ks.getD 0 []) (8 * N) p ↔ (∃ j, j < k + 1 ∧ i ∈ PL ks N p (ks.length - 1 - j)) ∨ (0 < k + 1 ∧ i ∈ PL ks N p 0) from by
        intro i
        rw [List.mem_append, List.mem_append, HM.out]
        constructor
        · rintro (((⟨j, hj, hi⟩ | ⟨_, hi⟩) | hi) | hi)
          · exact .inl ⟨j, by omega, hi⟩
          · exact .inr ⟨by omega, hi⟩
          · exact .inl ⟨k, by omega, by rw [Hq.out]; exact hi⟩
          · exact .inr ⟨by omega, hi⟩
        · rintro (⟨j, hj, hi⟩ | ⟨_, hi⟩)
          · rcases Nat.lt_or_ge j k with g | g
            · exact .inl (.inl (.inl ⟨j, g, hi⟩))
            · obtain rfl : j = k := by omega
              rw [Hq.out] at hi
              exact .inl (.inr hi)
          · exact .inr hi)
      go_wp2
      go_roundw
      case rel => exact ⟨k + 1, _, _, by omega, by go_num, Hgf4.out, Hf4.out, hb4, rL.out, rM.out⟩
      case measure => simp [intOf]; omega
    · obtain rfl : k = ks.length := by omega
      have hEq : addL cs0 M = addL cs0 L := by
        refine addL_same H80.out ?_ ?_ ?_
        · intro i hi
          rcases (HM.out i).1 hi with ⟨j, _, h⟩ | ⟨_, h⟩ <;> exact HP.out _ i h
        · intro i hi
          obtain ⟨j, _, h⟩ := (HL.out i).1 hi
          exact HP.out _ i h
        · intro i
          rw [HL.out, HM.out]
          constructor
          · rintro (⟨j, hj, hi⟩ | ⟨h0, hi⟩)
            · exact ⟨ks.length - 1 - j, by omega, hi⟩
            · exact ⟨0, h0, hi⟩
          · rintro ⟨j, hj, hi⟩
            exact .inl ⟨ks.length - 1 - j, by omega, by rw [show ks.length - 1 - (ks.length - 1 - j) = j from by omega]; exact hi⟩
      have hg := Hg.out
      rw [hEq] at hg
      generalize addL cs0 L = cs at *
      have Hg' := Lib.hid hg
      clear Hg hg hEq HL HM
      go_wp2_with fail
      refine (bytes_any _ _ _ _ _ wr Hf.out).mono ?_
      rintro e w2 ⟨x, rfl, ho2, hb2⟩
      have hx2 := Lib.hid (isBytes_own ho2 (fun y hy => by rcases List.mem_cons.1 hy with rfl | hy; · have := Hf.out.p30; omega
                                                           · exact Hf.out.b8 y hy))
      clear ho2
      have HG2 := Lib.hid (Hg'.out.below (B := 0) hb2)
      have hbw2 : Below w.heap.size w w2 := hb.trans (hb2.mono hwr)
      have hw2 : w.heap.size ≤ w2.heap.size := hbw2.size
      clear hb2
      go_wp2_with fail
      refine (bytes_any _ _ _ _ _ w2 HG2.out).mono ?_
      rintro e w3 ⟨y, rfl, ho3, hb3⟩
      have hy3 := Lib.hid (isBytes_own ho3 (fun y hy => by rcases List.mem_cons.1 hy with rfl | hy; · have := Hf.out.p30; omega
                                                           · exact Hf.out.b8 y hy))
      have hx3 := Lib.hid (hx2.out.below hb3)
      have hbw3 : Below w.heap.size w w3 := hbw2.trans (hb3.mono hw2)
      have hw3 : w.heap.size ≤ w3.heap.size := hbw3.size
      clear ho3 hb3
      go_wp2_with fail
      refine (same_true x y _ w3 hx3.out hy3.out).mono ?_
      rintro e w' ⟨rfl, rfl⟩
      go_wp2_with fail
      refine (awake_any w3 (Ht.out.below hbw3)).mono ?_
      rintro e w' ⟨rfl, hb'⟩
      go_wp2
      go_ret
      exact ⟨rfl, hbw3.trans (hb'.mono hw3)⟩
theorem bloomOrder_walk (v : Value) (ks : List (List Nat)) (a1 : Int) (w : World) (h : IsRows w v ks) (hw : (Lit.int .i64 a1).wf = true) (ht : TabOk w) :
    Calls Tryd.prog 5 #[v, .int .i64 a1] w fun e w' => e = .returned (.bool true) ∧ Below w.heap.size w w' := by
  cases hs : smallB ks with
  | false => exact order_small v ks a1 w h ht hs
  | true =>
    have h' := h
    obtain ⟨a, c, rfl, -, -, -⟩ := h'
    by_cases q : a1 < 1 ∨ 32 < a1
    · exact order_no a c ks a1 w h ht hs q
    · obtain ⟨n, rfl⟩ : ∃ n : Nat, a1 = n := ⟨a1.toNat, by omega⟩
      exact order_yes a c ks n w h ht hs (by omega) (by omega)
end Go.Proofs.YtkdipflmmlnbpaaDoor.Tithe
