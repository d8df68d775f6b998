/- The document's own answer: is a meta right? walked. -/
import Derived.Test.YtjefpogeknbelaaLevRef
namespace Go.Proofs.Ytjefpogeknbelaa.Tithe
open Go.RowKit Go.Sort Go.Shelf
set_option linter.unusedVariables false
set_option linter.unusedSimpArgs false
set_option maxRecDepth 100000
theorem refsOk_false {l : List (Int × Int)} {k : Nat} (h : refOk l k = false) : ∀ n, k < n → refsOk l n = false
  | 0, hn => by omega
  | n + 1, hn => by
    show (refsOk l n && refOk l n) = false
    by_cases e : k = n
    · subst e; rw [h, Bool.and_false]
    · rw [refsOk_false h n (by omega)]; rfl
theorem right3_yes {x : Ky} (h : okK x = true) (w : World) : Calls Try.prog 35 #[.agg #[.string x.u, .int .i64 x.s, .int .i64 x.k]] w fun e w' => e = .returned (.bool true) ∧ Below w.heap.size w w' := by
  have := right3_any x w
  rwa [h] at this
theorem right3_no {x : Ky} (h : okK x = false) (w : World) : Calls Try.prog 35 #[.agg #[.string x.u, .int .i64 x.s, .int .i64 x.k]] w fun e w' => e = .returned (.bool false) ∧ Below w.heap.size w w' := by
  have := right3_any x w
  rwa [h] at this
set_option maxHeartbeats 4000000 in
theorem right15_any (z n : Int) (a b : Ky) (vr : Value) (l : List (Int × Int)) (w : World) (h : IsRr w vr l) (hl : l.length ≤ 1000000) (hau : a.u.size ≤ maxLen) (hbu : b.u.size ≤ maxLen) :
    Calls Try.prog 12 #[metaV z n a b vr] w fun e w' => e = .returned (.bool (metaOk z n a b l)) ∧ Below w.heap.size w w' := by
  obtain ⟨va, c, rfl, -, -, -⟩ := id h
  obtain ⟨-, hc, hm, hx⟩ := h.at
  obtain ⟨m, hm2⟩ : ∃ m, m = l.length := ⟨_, rfl⟩
  unfold metaOk metaV
  rw [← hm2] at hx hc hl ⊢
  have Hx := Lib.hid hx
  have Hm2 := Lib.hid hm2
  have HC := Lib.hid (cmp3_any a b hau hbu)
  clear h hx hm2 hau hbu
  obtain ⟨B, hB⟩ : ∃ B : Bool, B = (headOk z n a b && refsOk l m) := ⟨_, rfl⟩
  rw [← hB]
  have HB0 := Lib.hid hB
  clear hB
  have hbk := blk_of_alloc w (.cells #[.int .i64 z, .int .i64 n, .string a.u, .int .i64 a.s, .int .i64 a.k, .string b.u, .int .i64 b.s, .int .i64 b.k, .slice va m c] 35)
  have hls : w.heap.size + 1 ≤ (w.alloc (.cells #[.int .i64 z, .int .i64 n, .string a.u, .int .i64 a.s, .int .i64 a.k, .string b.u, .int .i64 b.s, .int .i64 b.k, .slice va m c] 35)).heap.size := by rw [World.size_alloc]; omega
  have hbw : Below w.heap.size w (w.alloc (.cells #[.int .i64 z, .int .i64 n, .string a.u, .int .i64 a.s, .int .i64 a.k, .string b.u, .int .i64 b.s, .int .i64 b.k, .slice va m c] 35)) := (Below.refl _ _).alloc (Nat.le_refl _) _
  have hcc := fun j => cell_of_blk hbk j
  have Hlt := Lib.hid (blk_lt hbk)
  have Hbk := Lib.hid hbk
  have Hls := Lib.hid hls
  have Hbw := Lib.hid hbw
  clear hbk hls hbw
  go_enter Try.func12, Try.ntmps12
  go_upto_region 1 with fail
  generalize w.alloc (.cells #[.int .i64 z, .int .i64 n, .string a.u, .int .i64 a.s, .int .i64 a.k, .string b.u, .int .i64 b.s, .int .i64 b.k, .slice va m c] 35) = W at *
  by_cases h1 : 0 ≤ z
  rotate_left
  · have d1 : decide (z < 0) = true := decide_eq_true (by omega)
    have hh : headOk z n a b = false := by unfold headOk zoneOk; simp [h1]
    rw [hh, Bool.false_and] at HB0
    clear hh
    go_wp2_with fail
    go_ret
    exact ⟨by rw [HB0.out]; rfl, Hbw.out⟩
  have d1 : decide (z < 0) = false := decide_eq_false (by omega)
  by_cases h2 : z < 64
  rotate_left
  · have d2 : decide (z > 63) = true := decide_eq_true (by omega)
    have d2b : decide (63 < z) = true := decide_eq_true (by omega)
    have hh : headOk z n a b = false := by unfold headOk zoneOk; simp [h2]
    rw [hh, Bool.false_and] at HB0
    clear hh
    go_wp2_with fail
    go_ret
    exact ⟨by rw [HB0.out]; rfl, Hbw.out⟩
  have d2 : decide (z > 63) = false := decide_eq_false (by omega)
  have d2b : decide (63 < z) = false := decide_eq_false (by omega)
  by_cases h3 : 1 ≤ n
  rotate_left
  · have d3 : decide (n < 1) = true := decide_eq_true (by omega)
    have hh : headOk z n a b = false := by unfold headOk zoneOk; simp [h3]
    rw [hh, Bool.false_and] at HB0
    clear hh
    go_wp2_with fail
    go_ret
    exact ⟨by rw [HB0.out]; rfl, Hbw.out⟩
  have d3 : decide (n < 1) = false := decide_eq_false (by omega)
  by_cases h4 : n ≤ 65536
  rotate_left
  · have d4 : decide (n > 65536) = true := decide_eq_true (by omega)
    have d4b : decide (65536 < n) = true := decide_eq_true (by omega)
    have hh : headOk z n a b = false := by unfold headOk zoneOk; simp [h4]
    rw [hh, Bool.false_and] at HB0
    clear hh
    go_wp2_with fail
    go_ret
    exact ⟨by rw [HB0.out]; rfl, Hbw.out⟩
  have d4 : decide (n > 65536) = false := decide_eq_false (by omega)
  have d4b : decide (65536 < n) = false := decide_eq_false (by omega)
  cases ha : okK a with
  | false =>
    have HA := Lib.hid (right3_no ha)
    have hh : headOk z n a b = false := by unfold headOk zoneOk; simp [ha]
    rw [hh, Bool.false_and] at HB0
    clear hh
    go_wp2_with (first
      | (go_at_call 35; (with_reducible refine (HA.out _).mono ?_); rintro e w1 ⟨rfl, hb1⟩; have hk1 := blk_bels hb1 Hbk.out; have hc1 := fun j => cell_of_blk hk1 j; have Hk1 := Lib.hid hk1; have B1 := Lib.hid (Hbw.out.trans (hb1.mono Hbw.out.size)); clear hk1 hb1))
    go_ret
    exact ⟨by rw [HB0.out]; rfl, B1.out⟩
  | true =>
    have HA := Lib.hid (right3_yes ha)
    cases hbk : okK b with
    | false =>
      have HB := Lib.hid (right3_no hbk)
      have hh : headOk z n a b = false := by unfold headOk zoneOk; simp [hbk]
      rw [hh, Bool.false_and] at HB0
      clear hh
      go_wp2_with (first
        | (go_at_call 35; (with_reducible refine (HA.out _).mono ?_); rintro e w1 ⟨rfl, hb1⟩; have hk1 := blk_bels hb1 Hbk.out; have hc1 := fun j => cell_of_blk hk1 j; have Hk1 := Lib.hid hk1; have B1 := Lib.hid (Hbw.out.trans (hb1.mono Hbw.out.size)); clear hk1 hb1)
        | (go_at_call 35; (with_reducible refine (HB.out _).mono ?_); rintro e w2 ⟨rfl, hb2⟩; have hk2 := blk_bels hb2 Hk1.out; have hc2 := fun j => cell_of_blk hk2 j; have Hk2 := Lib.hid hk2; have B2 := Lib.hid (B1.out.trans (hb2.mono B1.out.size)); clear hk2 hb2))
      go_ret
      exact ⟨by rw [HB0.out]; rfl, B2.out⟩
    | true =>
      have HB := Lib.hid (right3_yes hbk)
      by_cases h5 : cmpK a b ≤ 0
      rotate_left
      · have d5 : decide (cmpK a b > 0) = true := decide_eq_true (by omega)
        have d5b : decide (0 < cmpK a b) = true := decide_eq_true (by omega)
        have hh : headOk z n a b = false := by unfold headOk zoneOk; simp [h5]
        rw [hh, Bool.false_and] at HB0
        clear hh
        generalize hcv : cmpK a b = cv at *
        go_wp2_with (first
          | (go_at_call 35; (with_reducible refine (HA.out _).mono ?_); rintro e w1 ⟨rfl, hb1⟩; have hk1 := blk_bels hb1 Hbk.out; have hc1 := fun j => cell_of_blk hk1 j; have Hk1 := Lib.hid hk1; have B1 := Lib.hid (Hbw.out.trans (hb1.mono Hbw.out.size)); clear hk1 hb1)
          | (go_at_call 35; (with_reducible refine (HB.out _).mono ?_); rintro e w2 ⟨rfl, hb2⟩; have hk2 := blk_bels hb2 Hk1.out; have hc2 := fun j => cell_of_blk hk2 j; have Hk2 := Lib.hid hk2; have B2 := Lib.hid (B1.out.trans (hb2.mono B1.out.size)); clear hk2 hb2)
          | (go_at_call 36; (with_reducible refine (HC.out _).mono ?_); rintro e w3 ⟨rfl, hb3⟩; have hk3 := blk_bels hb3 Hk2.out; have hc3 := fun j => cell_of_blk hk3 j; have Hk3 := Lib.hid hk3; have B3 := Lib.hid (B2.out.trans (hb3.mono B2.out.size)); clear hk3 hb3))
        go_ret
        exact ⟨by rw [HB0.out]; rfl, B3.out⟩
      have d5 : decide (cmpK a b > 0) = false := decide_eq_false (by omega)
      have d5b : decide (0 < cmpK a b) = false := decide_eq_false (by omega)
      have hh : headOk z n a b = true := by unfold headOk zoneOk; simp [h1, h2, h3, h4, ha, hbk, h5]
      rw [hh, Bool.true_and] at HB0
      clear hh ha hbk h5
      generalize cmpK a b = cv at *
      go_wp2_with (first
        | (go_at_call 35; (with_reducible refine (HA.out _).mono ?_); rintro e w1 ⟨rfl, hb1⟩; have hk1 := blk_bels hb1 Hbk.out; have hc1 := fun j => cell_of_blk hk1 j; have Hk1 := Lib.hid hk1; have B1 := Lib.hid (Hbw.out.trans (hb1.mono Hbw.out.size)); clear hk1 hb1)
        | (go_at_call 35; (with_reducible refine (HB.out _).mono ?_); rintro e w2 ⟨rfl, hb2⟩; have hk2 := blk_bels hb2 Hk1.out; have hc2 := fun j => cell_of_blk hk2 j; have Hk2 := Lib.hid hk2; have B2 := Lib.hid (B1.out.trans (hb2.mono B1.out.size)); clear hk2 hb2)
        | (go_at_call 36; (with_reducible refine (HC.out _).mono ?_); rintro e w3 ⟨rfl, hb3⟩; have hk3 := blk_bels hb3 Hk2.out; have hc3 := fun j => cell_of_blk hk3 j; have Hk3 := Lib.hid hk3; have B3 := Lib.hid (B2.out.trans (hb3.mono B2.out.size)); clear hk3 hb3))
      clear hc1 hc2 hc3 d1 d2 d2b d3 d4 d4b d5 d5b h1 h2 h3 h4 hcc
      have H8 := Lib.hid ((cell_of_blk Hk3.out 8).trans (show _ = some (.slice va m c) from rfl))
      have Hlt3 := Lib.hid (blk_lt Hk3.out)
      go_loopw [3] (fun iv wr => ∃ k : Nat, k ≤ m ∧ iv = .int .i64 k ∧ refsOk l k = true ∧ Below w3.heap.size w3 wr) (fun iv _ => m - (intOf iv).toNat)
      case atStart => exact ⟨0, Nat.zero_le _, rfl, rfl, Below.refl _ _⟩
      case round =>
        obtain ⟨wo, rfl⟩ : ∃ wo : World, wo = wr := ⟨_, rfl⟩
        obtain ⟨k, hk, rfl, hr, hbr⟩ := hrel
        have Hbr := Lib.hid hbr
        have Hr := Lib.hid hr
        have hb8 : wo.cell? ⟨w.heap.size, 8, none⟩ = some (.slice va m c) := grow_cell hbr Hlt3.out H8.out
        clear hbr hr
        by_cases hkm : k < m
        rotate_left
        · obtain rfl : k = m := by omega
          go_wp2
          go_ret
          exact ⟨by rw [HB0.out, Hr.out]; rfl, B3.out.trans (Hbr.out.mono B3.out.size)⟩
        obtain ⟨rb, off, rfl, hrow0⟩ := Hx.out (by omega)
        have hrow : ∀ (i : Nat) (x : Int × Int), l[i]? = some x → ∀ (j : Nat) (y : Value), (rfC x)[j]? = some y → wo.cell? ⟨rb, off + i * 2 + j, none⟩ = some y := fun i x hi j y hj =>
          grow_cell (B3.out.trans (Hbr.out.mono B3.out.size)) (block_lt_of_cell (hrow0 i x hi j y hj)) (hrow0 i x hi j y hj)
        obtain ⟨⟨x, y⟩, hxk⟩ : ∃ x, l[k]? = some x := ⟨_, List.getElem?_eq_getElem (by rw [← Hm2.out]; exact hkm)⟩
        have hg : l.getD k (0, 0) = (x, y) := by rw [List.getD_eq_getElem?_getD, hxk]; rfl
        have c0 := hrow k _ hxk 0 _ rfl
        have c1 := hrow k _ hxk 1 _ rfl
        rw [Nat.add_zero] at c0
        dsimp only at c0 c1
        have Hrow := Lib.hid hrow
        have hwb : ∀ nd, Below w.heap.size w ((wo.alloc (.cells #[.int .i64 x, .int .i64 y] 85)).drewN nd) := fun nd => (((B3.out.trans (Hbr.out.mono B3.out.size)).alloc (Nat.le_trans B3.out.size Hbr.out.size) _)).trans ⟨rfl, rfl, rfl, Nat.le_refl _, fun _ _ => rfl⟩
        have hwb3 : ∀ nd, Below w3.heap.size w3 ((wo.alloc (.cells #[.int .i64 x, .int .i64 y] 85)).drewN nd) := fun nd => (Hbr.out.alloc Hbr.out.size _).trans ⟨rfl, rfl, rfl, Nat.le_refl _, fun _ _ => rfl⟩
        have Hwb := Lib.hid hwb
        have Hwb3 := Lib.hid hwb3
        have hwr : k ≠ 0 → IntKind.i64.wrap ((k : Int) - 1) = (k : Int) - 1 := fun h0 => by
          have := Lib.wrap_i64_small (k - 1) (by omega)
          rw [Int.natCast_sub (by omega)] at this
          exact this
        have hj1 : ((k : Int) - 1).toNat = k - 1 := by omega
        clear hrow0 hrow hxk hwb hwb3
        by_cases g1 : 0 ≤ x
        rotate_left
        · have e1 : decide (x < 0) = true := decide_eq_true (by omega)
          have hh : refOk l k = false := by unfold refOk zoneOk; rw [hg]; simp [g1]
          have Hh := Lib.hid (refsOk_false hh m hkm)
          clear hh hg
          go_wp2_with fail
          go_quiet (fail)
          go_wp2
          go_ret
          exact ⟨by rw [HB0.out, Hh.out]; rfl, Hwb.out _⟩
        have e1 : decide (x < 0) = false := decide_eq_false (by omega)
        by_cases g2 : x < 64
        rotate_left
        · have e2 : decide (x > 63) = true := decide_eq_true (by omega)
          have e2b : decide (63 < x) = true := decide_eq_true (by omega)
          have hh : refOk l k = false := by unfold refOk zoneOk; rw [hg]; simp [g2]
          have Hh := Lib.hid (refsOk_false hh m hkm)
          clear hh hg
          go_wp2_with fail
          go_quiet (fail)
          go_wp2
          go_ret
          exact ⟨by rw [HB0.out, Hh.out]; rfl, Hwb.out _⟩
        have e2 : decide (x > 63) = false := decide_eq_false (by omega)
        have e2b : decide (63 < x) = false := decide_eq_false (by omega)
        by_cases g3 : 1 ≤ y
        rotate_left
        · have e3 : decide (y < 1) = true := decide_eq_true (by omega)
          have hh : refOk l k = false := by unfold refOk zoneOk; rw [hg]; simp [g3]
          have Hh := Lib.hid (refsOk_false hh m hkm)
          clear hh hg
          go_wp2_with fail
          go_quiet (fail)
          go_wp2
          go_ret
          exact ⟨by rw [HB0.out, Hh.out]; rfl, Hwb.out _⟩
        have e3 : decide (y < 1) = false := decide_eq_false (by omega)
        by_cases g4 : y ≤ 1073741824
        rotate_left
        · have e4 : decide (y > 1073741824) = true := decide_eq_true (by omega)
          have e4b : decide (1073741824 < y) = true := decide_eq_true (by omega)
          have hh : refOk l k = false := by unfold refOk zoneOk; rw [hg]; simp [g4]
          have Hh := Lib.hid (refsOk_false hh m hkm)
          clear hh hg
          go_wp2_with fail
          go_quiet (fail)
          go_wp2
          go_ret
          exact ⟨by rw [HB0.out, Hh.out]; rfl, Hwb.out _⟩
        have e4 : decide (y > 1073741824) = false := decide_eq_false (by omega)
        have e4b : decide (1073741824 < y) = false := decide_eq_false (by omega)
        by_cases h3 : k = 0
        · subst h3
          have ek : decide (((0 : Nat) : Int) > 0) = false := rfl
          simp only [Nat.zero_mul, Nat.add_zero] at c0 c1
          have hh : refsOk l (0 + 1) = true := by
            show (refsOk l 0 && refOk l 0) = true
            unfold refOk zoneOk; rw [hg]; simp [Hr.out, g1, g2, g3, g4]
          have Hh := Lib.hid hh
          clear hh hg
          go_wp2_with fail
          go_quiet (fail)
          go_wp2
          go_roundw
          case rel => exact ⟨0 + 1, by omega, by go_num, Hh.out, Hwb3.out _⟩
          case measure => simp [intOf]; omega
        have ek : decide ((k : Int) > 0) = true := decide_eq_true (by omega)
        have ek2 : decide (0 < (k : Int)) = true := decide_eq_true (by omega)
        have ek3 : decide (0 < k) = true := decide_eq_true (by omega)
        have ek4 : 0 < k := by omega
        obtain ⟨⟨px, py⟩, hpx⟩ : ∃ x, l[k - 1]? = some x := ⟨_, List.getElem?_eq_getElem (by rw [← Hm2.out]; omega)⟩
        have hgp : l.getD (k - 1) (0, 0) = (px, py) := by rw [List.getD_eq_getElem?_getD, hpx]; rfl
        have pc0 := Hrow.out (k - 1) _ hpx 0 _ rfl
        rw [Nat.add_zero] at pc0
        dsimp only at pc0
        have hw2 := hwr h3
        have hi1 : (1 : Int) ≤ (k : Int) := by omega
        have hi2 : (0 : Int) ≤ (k : Int) - 1 := by omega
        have hi3 : (k : Int) - 1 < (m : Int) := by omega
        have pc1 := fun o => grow_alloc pc0 o
        have pc8 := fun o => grow_alloc hb8 o
        clear hpx
        by_cases g5 : px < x
        · have e5 : decide (px ≥ x) = false := decide_eq_false (by omega)
          have e5b : decide (x ≤ px) = false := decide_eq_false (by omega)
          have hh : refsOk l (k + 1) = true := by
            show (refsOk l k && refOk l k) = true
            unfold refOk zoneOk; rw [hg, hgp]; simp [Hr.out, g1, g2, g3, g4, h3, g5]
          have Hh := Lib.hid hh
          clear hh hg hgp
          go_wp2_with fail
          go_quiet (fail)
          go_wp2
          go_roundw
          case rel => exact ⟨k + 1, by omega, by go_num, Hh.out, Hwb3.out _⟩
          case measure => simp [intOf]; omega
        · have e5 : decide (px ≥ x) = true := decide_eq_true (by omega)
          have e5b : decide (x ≤ px) = true := decide_eq_true (by omega)
          have hh : refOk l k = false := by unfold refOk zoneOk; rw [hg, hgp]; simp [h3, g5]
          have Hh := Lib.hid (refsOk_false hh m hkm)
          clear hh hg hgp
          go_wp2_with fail
          go_quiet (fail)
          go_wp2
          go_ret
          exact ⟨by rw [HB0.out, Hh.out]; rfl, Hwb.out _⟩
end Go.Proofs.Ytjefpogeknbelaa.Tithe
