/- The law BloomBack, walked. -/
import Derived.Test.YtkdipflmmlnbpaaDoorBloomParse
import Derived.Test.YtkdipflmmlnbpaaDoorBloomOrder
namespace Go.Proofs.YtkdipflmmlnbpaaDoor.Tithe
open Go.RowKit Go.Sort Go.Shelf
set_option linter.unusedVariables false
theorem newLen_le2 (n e : Nat) (hn : n ≤ 65536) (he : e ≤ 32) : newLen n e ≤ 262144 := by
  have : n * e ≤ 65536 * 32 := Nat.mul_le_mul hn he
  unfold newLen; omega
theorem back_small (v v' : Value) (ks ms : List (List Nat)) (a1 : Int) (w : World) (h : IsRows w v ks) (h' : IsRows w v' ms) (ht : TabOk w) (hs : smallB ks = false ∨ (smallB ks = true ∧ smallB ms = false)) :
    Calls Tryd.prog 8 #[v, v', .int .i64 a1] w fun e w' => e = .returned (.bool true) ∧ Below w.heap.size w w' := by
  have Ht := Lib.hid ht
  have H := Lib.hid h
  have H' := Lib.hid h'
  clear ht h h'
  rcases hs with hs | ⟨hs, hs'⟩
  · have Hs := Lib.hid hs
    clear hs
    go_enter Tryd.func8, Tryd.ntmps8
    go_wp2_with fail
    refine (small_any v ks w H.out).mono ?_
    rintro e w' ⟨rfl, rfl⟩
    rw [Hs.out]
    go_wp2_with fail
    refine (awake_any w Ht.out).mono ?_
    rintro e w' ⟨rfl, hb⟩
    go_wp2
    go_ret
    exact ⟨rfl, hb⟩
  · have Hs := Lib.hid hs
    have Hs' := Lib.hid hs'
    clear hs hs'
    go_enter Tryd.func8, Tryd.ntmps8
    go_wp2_with fail
    refine (small_any v ks w H.out).mono ?_
    rintro e w' ⟨rfl, rfl⟩
    rw [Hs.out]
    go_wp2_with fail
    refine (small_any v' ms w H'.out).mono ?_
    rintro e w' ⟨rfl, rfl⟩
    rw [Hs'.out]
    go_wp2_with fail
    refine (awake_any w Ht.out).mono ?_
    rintro e w' ⟨rfl, hb⟩
    go_wp2
    go_ret
    exact ⟨rfl, hb⟩
theorem back_no (a : Option Addr) (c : Nat) (v' : Value) (ks ms : List (List Nat)) (a1 : Int) (w : World) (h : IsRows w (.slice a ks.length c) ks) (h' : IsRows w v' ms) (ht : TabOk w) (hs : smallB ks = true) (hs' : smallB ms = true) (h1 : a1 < 1 ∨ 32 < a1) :
    Calls Tryd.prog 8 #[.slice a ks.length c, v', .int .i64 a1] w fun e w' => e = .returned (.bool true) ∧ Below w.heap.size w w' := by
  have Ht := Lib.hid ht
  have H := Lib.hid h
  have H' := Lib.hid h'
  have Hs := Lib.hid hs
  have Hs' := Lib.hid hs'
  have H1 := Lib.hid h1
  clear ht h hs h1 h' hs'
  have hq : decide (a1 < 1) = true ∨ (decide (a1 < 1) = false ∧ decide (32 < a1) = true) := by
    by_cases q : a1 < 1
    · exact .inl (decide_eq_true q)
    · exact .inr ⟨decide_eq_false q, decide_eq_true (by have := H1.out; omega)⟩
  rcases hq with q | ⟨q, q'⟩
  all_goals
    go_enter Tryd.func8, Tryd.ntmps8
    go_wp2_with fail
    refine (small_any _ ks w H.out).mono ?_
    rintro e w' ⟨rfl, rfl⟩
    rw [Hs.out]
    go_wp2_with fail
    refine (small_any v' ms w H'.out).mono ?_
    rintro e w' ⟨rfl, rfl⟩
    rw [Hs'.out]
    go_wp2_with fail
    refine (new_no ks.length a1 w (.inr (.inr H1.out))).mono ?_
    rintro e w' ⟨rfl, rfl⟩
    go_wp2_with fail
    refine (awake_any w Ht.out).mono ?_
    rintro e w' ⟨rfl, hb⟩
    go_wp2
    go_ret
    exact ⟨rfl, hb⟩
theorem back_yes (a a' : Option Addr) (c c' : Nat) (ks ms : List (List Nat)) (a1 : Nat) (w : World) (h : IsRows w (.slice a ks.length c) ks) (h' : IsRows w (.slice a' ms.length c') ms) (ht : TabOk w) (hs : smallB ks = true) (hs' : smallB ms = true) (h1 : 1 ≤ a1) (h2 : a1 ≤ 32) :
    Calls Tryd.prog 8 #[.slice a ks.length c, .slice a' ms.length c', .int .i64 a1] w fun e w' => e = .returned (.bool true) ∧ Below w.heap.size w w' := by
  have Ht := Lib.hid ht
  have H := Lib.hid h
  have H' := Lib.hid h'
  have Hs := Lib.hid hs
  have Hs' := Lib.hid hs'
  have h60 := smallB_iff hs
  have h60' := smallB_iff hs'
  have hcm : c ≤ 9223372036854775807 ∧ ks.length ≤ c := by
    obtain ⟨a', c', e, g1, g2, _⟩ := h
    injection e with e1 e2 e3
    subst e3
    unfold maxLen at g2
    exact ⟨by omega, g1⟩
  have hcm' : c' ≤ 9223372036854775807 ∧ ms.length ≤ c' := by
    obtain ⟨a', c', e, g1, g2, _⟩ := h'
    injection e with e1 e2 e3
    subst e3
    unfold maxLen at g2
    exact ⟨by omega, g1⟩
  obtain ⟨hcm, hcl⟩ := hcm
  obtain ⟨hcm', hcl'⟩ := hcm'
  clear ht h hs h' hs'
  go_enter Tryd.func8, Tryd.ntmps8
  go_wp2_with fail
  refine (small_any _ ks w H.out).mono ?_
  rintro e w' ⟨rfl, rfl⟩
  rw [Hs.out]
  go_wp2_with fail
  refine (small_any _ ms w H'.out).mono ?_
  rintro e w' ⟨rfl, rfl⟩
  rw [Hs'.out]
  go_wp2_with fail
  refine (new_yes ks.length a1 w (by omega) h1 h2).mono ?_
  rintro e w1 ⟨rfl, hf1, hb1, hs1⟩
  have hl1 : (List.replicate (newLen ks.length a1) 0).length = newLen ks.length a1 := by simp
  have hNle := newLen_le2 ks.length a1 (by omega) h2
  have hN8 : 8 ≤ newLen ks.length a1 := by unfold newLen; omega
  generalize newLen ks.length a1 = N at *
  generalize newProbes a1 = p at *
  generalize List.replicate N 0 = cs0 at *
  have HF1 := Lib.hid hf1
  have HS1 := Lib.hid hs1
  have HL1 := Lib.hid hl1
  clear hf1 hs1 hl1
  go_wp2_with fail
  go_loopw [48] (fun i wr => ∃ (k : Nat) (cs : List Nat), k ≤ ks.length ∧ i = .int .i64 k ∧ IsFilter wr (w.heap.size + 1) w.heap.size N cs p ∧ Below w.heap.size w wr ∧ cs.length = N) (fun i _ => ks.length - (intOf i).toNat)
  case atStart => exact ⟨0, cs0, Nat.zero_le _, rfl, HF1.out, hb1, HL1.out⟩
  case round =>
    obtain ⟨k, cs, hk, rfl, hf, hb, hl⟩ := hrel
    have Hf := Lib.hid hf
    have Hl := Lib.hid hl
    have hwr : w.heap.size ≤ wr.heap.size := hb.size
    clear hf hl
    by_cases hlt : k < ks.length
    · obtain ⟨-, b, off, rfl, ka, kn, kc, hx0, hk0⟩ := H.out.at hlt
      have hx : wr.cell? ⟨b, off + k, none⟩ = some (.slice ka kn kc) := by rw [hb.cell (block_lt_of_cell hx0)]; exact hx0
      have Hk0 := Lib.hid hk0
      clear hk0 hx0
      go_wp2_with fail
      refine (add_any w wr hb ka kn kc _ Hk0.out Ht.out _ _ _ _ _ Hf.out (by omega) (by omega)).mono ?_
      rintro e w2 ⟨⟨v, rfl⟩, hf2, hg2⟩
      have Hf2 := Lib.hid hf2
      have Hl2 := Lib.hid (show (addL cs (keyPlaces (ks.getD k []) (8 * cs.length) p)).length = N by rw [addL_length, Hl.out])
      have hb2 : Below w.heap.size w w2 := hb.trans (grown_below hg2 (Nat.le_refl _) hwr)
      clear hf2 hg2 hx
      go_wp2
      go_roundw
      case rel => exact ⟨k + 1, _, by omega, by go_num, Hf2.out, hb2, Hl2.out⟩
      case measure => simp [intOf]; omega
    · obtain rfl : k = ks.length := by omega
      go_wp2_with fail
      refine (bytes_any _ _ _ _ _ wr Hf.out).mono ?_
      rintro e w2 ⟨x, rfl, ho2, hb2⟩
      obtain ⟨g2, cap2, rfl, hg2⟩ := own_form ho2 (by simp)
      have hx2 := Lib.hid (isBytes_own ho2 (fun y hy => by rcases List.mem_cons.1 hy with rfl | hy; · have := Hf.out.p30; omega
                                                           · exact Hf.out.b8 y hy))
      have HF2 := Lib.hid (Hf.out.below (B := 0) hb2)
      have hbw2 : Below w.heap.size w w2 := hb.trans (hb2.mono hwr)
      have hw2 : w.heap.size ≤ w2.heap.size := hbw2.size
      have hpl : (p :: cs).length = N + 1 := by rw [List.length_cons, Hl.out]
      clear ho2 hb2
      have hp30 := Hf.out.p30
      have cP := parse_yes g2 0 cap2 (p :: cs) w2 hx2.out (by rw [hpl]; omega) (by rw [hpl]; omega) (by show (1 : Int) ≤ (p : Int); omega) (by show (p : Int) ≤ 30; omega)
      rw [hpl] at cP ⊢
      have CP := Lib.hid cP
      clear cP hpl
      go_wp2_with fail
      refine CP.out.mono ?_
      rintro e w3 ⟨fb, gb, cap, rfl, hf3, hb3, hfb, hgb⟩
      have hF3 : IsFilter w3 fb gb cap cs p := hf3
      have HG3 := Lib.hid hF3
      have HF3 := Lib.hid (HF2.out.below (B := 0) hb3)
      have hlt2 := HF2.out.lt
      have hbw3 : Below w.heap.size w w3 := hbw2.trans (hb3.mono hw2)
      have hw3 : w.heap.size ≤ w3.heap.size := hbw3.size
      have h2lt : w.heap.size + 1 < w2.heap.size := hlt2.1
      clear hf3 hF3 hb3 hlt2 hp30
      have cS : Hid (Calls Tryd.prog 13 #[.pointer (some ⟨w.heap.size + 1, 0, none⟩)] w3 fun e w' => e = .returned (.int .i64 (popL cs : Nat)) ∧ w3 = w') := set_any _ _ _ _ _ w3 HF3.out
      have cS' : Hid (Calls Tryd.prog 13 #[.pointer (some ⟨fb, 0, none⟩)] w3 fun e w' => e = .returned (.int .i64 (popL cs : Nat)) ∧ w3 = w') := set_any _ _ _ _ _ w3 HG3.out
      have cQ : Hid (Calls Tryd.prog 20 #[.pointer (some ⟨w.heap.size + 1, 0, none⟩)] w3 fun e w' => e = .returned (.int .i64 p) ∧ w3 = w') := probes_any _ _ _ _ _ w3 HF3.out
      have cQ' : Hid (Calls Tryd.prog 20 #[.pointer (some ⟨fb, 0, none⟩)] w3 fun e w' => e = .returned (.int .i64 p) ∧ w3 = w') := probes_any _ _ _ _ _ w3 HG3.out
      go_wp2_with (first | (with_reducible refine cS.out.mono ?_; rintro e w' ⟨rfl, rfl⟩) | (with_reducible refine cS'.out.mono ?_; rintro e w' ⟨rfl, rfl⟩) | (with_reducible refine cQ.out.mono ?_; rintro e w' ⟨rfl, rfl⟩) | (with_reducible refine cQ'.out.mono ?_; rintro e w' ⟨rfl, rfl⟩))
      obtain ⟨wo, rfl⟩ : ∃ wo : World, wo = wr := ⟨_, rfl⟩
      go_loopw [84] (fun i wr => ∃ (k : Nat) (ds : List Nat), k ≤ ms.length ∧ i = .int .i64 k ∧ IsFilter wr (w.heap.size + 1) w.heap.size N ds p ∧ IsFilter wr fb gb cap ds p ∧ Below w.heap.size w wr) (fun i _ => ms.length - (intOf i).toNat)
      case atStart => exact ⟨0, cs, Nat.zero_le _, rfl, HF3.out, HG3.out, hbw3⟩
      case round =>
        obtain ⟨m, ds, hm, rfl, hf4, hg4, hb4⟩ := hrel
        have Hf4 := Lib.hid hf4
        have Hg4 := Lib.hid hg4
        have hwr4 : w.heap.size ≤ wr.heap.size := hb4.size
        clear hf4 hg4
        by_cases hml : m < ms.length
        · obtain ⟨-, b, off, rfl, ka, kn, kc, hx0, hk0⟩ := H'.out.at hml
          have hx : wr.cell? ⟨b, off + m, none⟩ = some (.slice ka kn kc) := by rw [hb4.cell (block_lt_of_cell hx0)]; exact hx0
          have Hk0 := Lib.hid hk0
          clear hk0 hx0
          go_wp2_with fail
          refine (has_any _ _ _ _ _ (Hk0.out.below hb4) (Ht.out.below hb4) _ _ _ _ _ Hf4.out).mono ?_
          rintro e w5 ⟨rfl, hb5⟩
          have hb5' : Below w.heap.size w w5 := hb4.trans (hb5.mono hwr4)
          have hwr5 : w.heap.size ≤ w5.heap.size := hb5'.size
          have Hf5 := Lib.hid (Hf4.out.below (B := 0) hb5)
          have Hg5 := Lib.hid (Hg4.out.below (B := 0) hb5)
          have cH := (has_any _ _ _ _ _ (Hk0.out.below hb5') (Ht.out.below hb5') _ _ _ _ _ Hg5.out)
          obtain ⟨q, hq⟩ : ∃ q, hasL ds (keyPlaces (ms.getD m []) (8 * ds.length) p) = q := ⟨_, rfl⟩
          rw [hq] at cH ⊢
          have CH := Lib.hid cH
          clear cH hq hx hb5
          go_wp2_with fail
          refine CH.out.mono ?_
          rintro e w6 ⟨rfl, hb6⟩
          have hb6' : Below w.heap.size w w6 := hb5'.trans (hb6.mono hwr5)
          have hwr6 : w.heap.size ≤ w6.heap.size := hb6'.size
          have Hf6 := Lib.hid (Hf5.out.below (B := 0) hb6)
          have Hg6 := Lib.hid (Hg5.out.below (B := 0) hb6)
          clear hb6
          go_wp2_with fail
          refine (add_any w w6 hb6' ka kn kc _ Hk0.out Ht.out _ _ _ _ _ Hf6.out (by omega) (by omega)).mono ?_
          rintro e w7 ⟨⟨v7, rfl⟩, hf7, hg7⟩
          have hgf7 := Hg6.out.grown hg7 (by omega) (by omega)
          have hb7 : Below w.heap.size w w7 := hb6'.trans (grown_below hg7 (Nat.le_refl _) hwr6)
          have Hf7 := Lib.hid hf7
          have Hgf7 := Lib.hid hgf7
          have hwr7 : w.heap.size ≤ w7.heap.size := hb7.size
          clear hf7 hgf7 hg7
          go_wp2_with fail
          refine (add_any w w7 hb7 ka kn kc _ Hk0.out Ht.out _ _ _ _ _ Hgf7.out (by omega) (by omega)).mono ?_
          rintro e w8 ⟨⟨v8, rfl⟩, hf8, hg8⟩
          have hgf8 := Hf7.out.grown hg8 (by omega) (by omega)
          have hb8 : Below w.heap.size w w8 := hb7.trans (grown_below hg8 (by omega) hwr7)
          have Hf8 := Lib.hid hf8
          have Hgf8 := Lib.hid hgf8
          clear hf8 hgf8 hg8
          go_wp2
          go_roundw
          case rel => exact ⟨m + 1, _, by omega, by go_num, Hgf8.out, Hf8.out, hb8⟩
          case measure => simp [intOf]; omega
        · obtain rfl : m = ms.length := by omega
          have P8 := Lib.hid (show ∀ x ∈ p :: ds, x < 256 from fun y hy => by rcases List.mem_cons.1 hy with rfl | hy; · have := Hf4.out.p30; omega
                                                                              · exact Hf4.out.b8 y hy)
          go_wp2_with fail
          refine (bytes_any _ _ _ _ _ wr Hf4.out).mono ?_
          rintro e w5 ⟨x, rfl, ho5, hb5⟩
          have hx5 := Lib.hid (isBytes_own ho5 P8.out)
          have HG5 := Lib.hid (Hg4.out.below (B := 0) hb5)
          have hbw5 : Below w.heap.size w w5 := hb4.trans (hb5.mono hwr4)
          have hw5 : w.heap.size ≤ w5.heap.size := hbw5.size
          clear hb5 ho5
          go_wp2_with fail
          refine (bytes_any _ _ _ _ _ w5 HG5.out).mono ?_
          rintro e w6 ⟨y, rfl, ho6, hb6⟩
          have hy6 := Lib.hid (isBytes_own ho6 P8.out)
          have hx6 := Lib.hid (hx5.out.below hb6)
          have hbw6 : Below w.heap.size w w6 := hbw5.trans (hb6.mono hw5)
          have hw6 : w.heap.size ≤ w6.heap.size := hbw6.size
          clear ho6 hb6
          go_wp2_with fail
          refine (same_true x y _ w6 hx6.out hy6.out).mono ?_
          rintro e w' ⟨rfl, rfl⟩
          go_wp2_with fail
          refine (awake_any w6 (Ht.out.below hbw6)).mono ?_
          rintro e w' ⟨rfl, hb'⟩
          go_wp2
          go_ret
          exact ⟨rfl, hbw6.trans (hb'.mono hw6)⟩
theorem bloomBack_walk (v : Value) (ks : List (List Nat)) (v' : Value) (ms : List (List Nat)) (a1 : Int) (w : World) (h : IsRows w v ks) (h' : IsRows w v' ms) (hw : (Lit.int .i64 a1).wf = true) (ht : TabOk w) :
    Calls Tryd.prog 8 #[v, v', .int .i64 a1] w fun e w' => e = .returned (.bool true) ∧ Below w.heap.size w w' := by
  cases hs : smallB ks with
  | false => exact back_small v v' ks ms a1 w h h' ht (.inl hs)
  | true =>
    cases hs' : smallB ms with
    | false => exact back_small v v' ks ms a1 w h h' ht (.inr ⟨hs, hs'⟩)
    | true =>
      have g := h
      have g' := h'
      obtain ⟨a, c, rfl, -, -, -⟩ := g
      obtain ⟨a', c', rfl, -, -, -⟩ := g'
      by_cases q : a1 < 1 ∨ 32 < a1
      · exact back_no a c _ ks ms a1 w h h' ht hs hs' q
      · obtain ⟨n, rfl⟩ : ∃ n : Nat, a1 = n := ⟨a1.toNat, by omega⟩
        exact back_yes a a' c c' ks ms n w h h' ht hs hs' (by omega) (by omega)
end Go.Proofs.YtkdipflmmlnbpaaDoor.Tithe
