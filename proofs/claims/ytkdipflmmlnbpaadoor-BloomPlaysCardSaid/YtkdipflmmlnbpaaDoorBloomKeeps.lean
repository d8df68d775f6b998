/- The law BloomKeeps, walked. -/
import Derived.Test.YtkdipflmmlnbpaaDoorBloomAwake
import Derived.Lib.QuietBelow
import Derived.BigQuiet
import Derived.LoopTactic
namespace Go.Proofs.YtkdipflmmlnbpaaDoor.Tithe
open Go.RowKit Go.Sort Go.Shelf
set_option linter.unusedVariables false
theorem IsRows.at {w : World} {a : Option Addr} {n c : Nat} {ks : List (List Nat)} (h : IsRows w (.slice a n c) ks) {k : Nat} (hk : k < ks.length) : n = ks.length ∧ ∃ b off, a = some ⟨b, off, none⟩ ∧ ∃ ka kn kc, w.cell? ⟨b, off + k, none⟩ = some (.slice ka kn kc) ∧ IsBytes w (.slice ka kn kc) (ks.getD k []) := by
  obtain ⟨a', c', e, h1, h2, h3⟩ := h
  injection e with e1 e2 e3
  subst e1 e3
  obtain ⟨b, off, rfl, hc⟩ := h3 (by rintro rfl; simp at hk)
  exact ⟨e2, b, off, rfl, hc k hk⟩
theorem smallB_iff {ks : List (List Nat)} (h : smallB ks = true) : ks.length ≤ 60 := by
  unfold smallB at h
  simp only [Bool.and_eq_true, decide_eq_true_eq] at h
  exact h.2
theorem newLen_le (n e : Nat) (hn : n ≤ 65536) (he : e ≤ 32) : newLen n e ≤ 2097152 := by
  have : n * e ≤ 65536 * 32 := Nat.mul_le_mul hn he
  unfold newLen; omega
theorem keeps_small (v : Value) (ks : List (List Nat)) (a1 : Int) (w : World) (h : IsRows w v ks) (ht : TabOk w) (hs : smallB ks = false) :
    Calls Tryd.prog 3 #[v, .int .i64 a1] w fun e w' => e = .returned (.bool true) ∧ Below w.heap.size w w' := by
  have Ht := Lib.hid ht
  have H := Lib.hid h
  have Hs := Lib.hid hs
  clear ht h hs
  go_enter Tryd.func3, Tryd.ntmps3
  go_wp2_with fail
  refine (small_any v ks w H.out).mono ?_
  rintro e w' ⟨rfl, rfl⟩
  rw [Hs.out]
  go_wp2_with fail
  refine (awake_any w Ht.out).mono ?_
  rintro e w' ⟨rfl, hb⟩
  go_wp2
  go_ret
  exact ⟨rfl, hb⟩
theorem keeps_no (a : Option Addr) (c : Nat) (ks : List (List Nat)) (a1 : Int) (w : World) (h : IsRows w (.slice a ks.length c) ks) (ht : TabOk w) (hs : smallB ks = true) (h1 : a1 < 1 ∨ 32 < a1) :
    Calls Tryd.prog 3 #[.slice a ks.length c, .int .i64 a1] w fun e w' => e = .returned (.bool true) ∧ Below w.heap.size w w' := by
  have Ht := Lib.hid ht
  have H := Lib.hid h
  have Hs := Lib.hid hs
  have H1 := Lib.hid h1
  clear ht h hs h1
  have hq : decide (a1 < 1) = true ∨ (decide (a1 < 1) = false ∧ decide (32 < a1) = true) := by
    by_cases q : a1 < 1
    · exact .inl (decide_eq_true q)
    · exact .inr ⟨decide_eq_false q, decide_eq_true (by have := H1.out; omega)⟩
  rcases hq with q | ⟨q, q'⟩
  all_goals
    go_enter Tryd.func3, Tryd.ntmps3
    go_wp2_with fail
    refine (small_any _ ks w H.out).mono ?_
    rintro e w' ⟨rfl, rfl⟩
    rw [Hs.out]
    go_wp2_with fail
    refine (new_no ks.length a1 w (.inr (.inr H1.out))).mono ?_
    rintro e w' ⟨rfl, rfl⟩
    go_wp2_with fail
    refine (awake_any w Ht.out).mono ?_
    rintro e w' ⟨rfl, hb⟩
    go_wp2
    go_ret
    exact ⟨rfl, hb⟩
theorem keeps_yes (a : Option Addr) (c : Nat) (ks : List (List Nat)) (a1 : Nat) (w : World) (h : IsRows w (.slice a ks.length c) ks) (ht : TabOk w) (hs : smallB ks = true) (h1 : 1 ≤ a1) (h2 : a1 ≤ 32) :
    Calls Tryd.prog 3 #[.slice a ks.length c, .int .i64 a1] w fun e w' => e = .returned (.bool true) ∧ Below w.heap.size w w' := by
  have Ht := Lib.hid ht
  have H := Lib.hid h
  have Hs := Lib.hid hs
  have h60 := smallB_iff hs
  have hcm : c ≤ 9223372036854775807 ∧ ks.length ≤ c := by
    obtain ⟨a', c', e, g1, g2, _⟩ := h
    injection e with e1 e2 e3
    subst e3
    unfold maxLen at g2
    exact ⟨by omega, g1⟩
  obtain ⟨hcm, hcl⟩ := hcm
  clear ht h hs
  go_enter Tryd.func3, Tryd.ntmps3
  go_wp2_with fail
  refine (small_any _ ks w H.out).mono ?_
  rintro e w' ⟨rfl, rfl⟩
  rw [Hs.out]
  go_wp2_with fail
  refine (new_yes ks.length a1 w (by omega) h1 h2).mono ?_
  rintro e w1 ⟨rfl, hf1, hb1, hs1⟩
  have hz : 0 ≤ popL (List.replicate (newLen ks.length a1) 0) := Nat.zero_le _
  have hl1 : (List.replicate (newLen ks.length a1) 0).length = newLen ks.length a1 := by simp
  have hNle := newLen_le ks.length a1 (by omega) h2
  generalize newLen ks.length a1 = N at *
  generalize newProbes a1 = p at *
  generalize List.replicate N 0 = cs0 at *
  have HF1 := Lib.hid hf1
  have HS1 := Lib.hid hs1
  have HL1 := Lib.hid hl1
  clear hf1 hs1 hl1
  go_wp2_with fail
  go_loopw [7, 44] (fun s i wr => ∃ (k : Nat) (cs : List Nat) (z : Nat), k ≤ ks.length ∧ i = .int .i64 k ∧ s = .int .i64 z ∧ z ≤ popL cs ∧ IsFilter wr (w.heap.size + 1) w.heap.size N cs p ∧ Below w.heap.size w wr ∧ (∀ j, j < k → hasL cs (keyPlaces (ks.getD j []) (8 * N) p) = true) ∧ cs.length = N) (fun _ i _ => ks.length - (intOf i).toNat)
  case atStart => exact ⟨0, cs0, 0, Nat.zero_le _, rfl, rfl, hz, HF1.out, hb1, fun j hj => by omega, HL1.out⟩
  case round =>
    obtain ⟨k, cs, z, hk, rfl, rfl, hzp, hf, hb, hall, hl⟩ := hrel
    by_cases hlt : k < ks.length
    · obtain ⟨-, b, off, rfl, ka, kn, kc, hx0, hk0⟩ := H.out.at hlt
      have hx : wr.cell? ⟨b, off + k, none⟩ = some (.slice ka kn kc) := by rw [hb.cell (block_lt_of_cell hx0)]; exact hx0
      have Hk0 := Lib.hid hk0
      have Hf := Lib.hid hf
      have Hall := Lib.hid hall
      have Hl := Lib.hid hl
      have hwr : w.heap.size ≤ wr.heap.size := hb.size
      clear hk0 hf hall hl hx0
      go_wp2_with fail
      refine (add_any w wr hb ka kn kc _ Hk0.out Ht.out _ _ _ _ _ Hf.out (by omega) (by omega)).mono ?_
      rintro e w2 ⟨⟨v, rfl⟩, hf2, hg2⟩
      have hlen2 : (addL cs (keyPlaces (ks.getD k []) (8 * cs.length) p)).length = N := by rw [addL_length, Hl.out]
      have hpl : ∀ (l : List Nat), ∀ i ∈ keyPlaces l (8 * cs.length) p, i < 8 * cs.length := fun l => places_lt (by have := Hf.out.pos; omega)
      have hall2 : ∀ j, j < k + 1 → hasL (addL cs (keyPlaces (ks.getD k []) (8 * cs.length) p)) (keyPlaces (ks.getD j []) (8 * N) p) = true := by
        intro j hj
        rcases Nat.lt_or_ge j k with q | q
        · exact hasL_mono (hpl _) (Hall.out j q)
        · obtain rfl : j = k := by omega
          rw [← Hl.out]; exact hasL_addL (hpl _)
      have hpop : z ≤ popL (addL cs (keyPlaces (ks.getD k []) (8 * cs.length) p)) := Nat.le_trans hzp (popL_addL _ _)
      have hpop2 : popL (addL cs (keyPlaces (ks.getD k []) (8 * cs.length) p)) ≤ 8 * N := by rw [← hlen2]; exact popL_le _
      clear hpl
      generalize addL cs (keyPlaces (ks.getD k []) (8 * cs.length) p) = cs2 at *
      have Hf2 := Lib.hid hf2
      have Hall2 := Lib.hid hall2
      have Hl2 := Lib.hid hlen2
      have hb2 : Below w.heap.size w w2 := hb.trans (grown_below hg2 (Nat.le_refl _) hwr)
      have Hg2 := Lib.hid hg2
      clear hf2 hall2 hlen2 hg2 hx
      obtain ⟨y, hy⟩ : ∃ y, popL cs2 = y := ⟨_, rfl⟩
      rw [hy] at hpop hpop2
      have hpop' : (z : Int) ≤ (y : Int) := by omega
      have hpop2' : (y : Int) ≤ ((8 * N : Nat) : Int) := by omega
      have Hy := Lib.hid hy
      clear hy
      have cS : Hid (Calls Tryd.prog 13 #[.pointer (some ⟨w.heap.size + 1, 0, none⟩)] w2 fun e w' => e = .returned (.int .i64 y) ∧ w2 = w') := by
        have := set_any _ _ _ _ _ w2 Hf2.out
        rw [Hy.out] at this; exact this
      have cB : Hid (Calls Tryd.prog 14 #[.pointer (some ⟨w.heap.size + 1, 0, none⟩)] w2 fun e w' => e = .returned (.int .i64 (8 * N : Nat)) ∧ w2 = w') := by
        have := bits_any _ _ _ _ _ w2 Hf2.out
        rw [Hl2.out] at this; exact this
      go_wp2_with (first | (with_reducible refine cS.out.mono ?_; rintro e w' ⟨rfl, rfl⟩) | (with_reducible refine cB.out.mono ?_; rintro e w' ⟨rfl, rfl⟩))
      obtain ⟨wo, rfl⟩ : ∃ wo : World, wo = wr := ⟨_, rfl⟩
      have hz' : w.heap.size ≤ w2.heap.size := hb2.size
      go_loopw [70] (fun i wr => ∃ (m : Nat), m ≤ k + 1 ∧ i = .int .i64 m ∧ IsFilter wr (w.heap.size + 1) w.heap.size N cs2 p ∧ Below w.heap.size w wr) (fun i _ => k + 1 - (intOf i).toNat)
      case atStart => exact ⟨0, Nat.zero_le _, rfl, Hf2.out, hb2⟩
      case round =>
        obtain ⟨m, hm, rfl, hf3, hb3⟩ := hrel
        have Hf3 := Lib.hid hf3
        clear hf3
        by_cases hml : m < k + 1
        · obtain ⟨-, b', off', e, ka', kn', kc', hx3, hk3⟩ := (H.out.below hb3).at (k := m) (by omega)
          injection e with e
          injection e with e1 e2
          subst e1 e2
          have Hk3 := Lib.hid hk3
          have Hh := Lib.hid (Hall2.out m hml)
          have hml' : (m : Int) < (k : Int) + 1 := by omega
          clear hk3
          go_wp2_with fail
          refine (has_any _ _ _ _ _ Hk3.out (Ht.out.below hb3) _ _ _ _ _ Hf3.out).mono ?_
          rintro e w4 ⟨rfl, hb4⟩
          rw [Hl2.out, Hh.out]
          go_wp2
          go_roundw
          case rel => exact ⟨m + 1, by omega, by go_num, Hf3.out.below (B := 0) hb4, hb3.trans (hb4.mono hb3.size)⟩
          case measure => simp [intOf]; omega
        · obtain rfl : m = k + 1 := by omega
          go_wp2
          go_roundw
          case rel => exact ⟨k + 1, cs2, y, by omega, by go_num, rfl, by rw [Hy.out]; exact Nat.le_refl _, Hf3.out, hb3, Hall2.out, Hl2.out⟩
          case measure => simp [intOf]; omega
    · obtain rfl : k = ks.length := by omega
      have Hf := Lib.hid hf
      have Hall := Lib.hid hall
      have Hl := Lib.hid hl
      clear hf hall hl
      go_wp2_with fail
      refine (awake_any wr (Ht.out.below hb)).mono ?_
      rintro e w' ⟨rfl, hb'⟩
      go_wp2
      go_ret
      exact ⟨rfl, hb.trans (hb'.mono hb.size)⟩
theorem bloomKeeps_walk (v : Value) (ks : List (List Nat)) (a1 : Int) (w : World) (h : IsRows w v ks) (hw : (Lit.int .i64 a1).wf = true) (ht : TabOk w) :
    Calls Tryd.prog 3 #[v, .int .i64 a1] w fun e w' => e = .returned (.bool true) ∧ Below w.heap.size w w' := by
  cases hs : smallB ks with
  | false => exact keeps_small v ks a1 w h ht hs
  | true =>
    have h' := h
    obtain ⟨a, c, rfl, -, -, -⟩ := h'
    by_cases q : a1 < 1 ∨ 32 < a1
    · exact keeps_no a c ks a1 w h ht hs q
    · obtain ⟨n, rfl⟩ : ∃ n : Nat, a1 = n := ⟨a1.toNat, by omega⟩
      exact keeps_yes a c ks n w h ht hs (by omega) (by omega)
end Go.Proofs.YtkdipflmmlnbpaaDoor.Tithe
