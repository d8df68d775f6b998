/- The document's own answers on keys, and law 15's turning of metas: walked. The document's own answer: is a meta right? walked. law16's refKey and ref: walked (printed by mkmanref.py). The document's zones and list: walked (printed by mkmanr16.py). What hangs on a record's metas alone: plain. The document's bytes of a record: walked (printed by mkmanrb16.py). The document's Right of a record: walked (printed by mkmanright.py). -/
import Derived.Test.YthjjelomlgmllaaLevChk
import Derived.Test.YthjjelomlgmllaaManParP
import Derived.Deep.RegionHeld3
import Derived.Test.YthjjelomlgmllaaManRecP
import Derived.Test.YthjjelomlgmllaaLevAppI
namespace Go.Proofs.Ythjjelomlgmllaa.Tithe
open Go.RowKit Go.Sort Go.Shelf
set_option linter.unusedVariables false
set_option maxRecDepth 100000
theorem right3_any (x : Ky) (w : World) : Calls Try.prog 66 #[.agg #[.string x.u, .int .i64 x.s, .int .i64 x.k]] w fun e w' => e = .returned (.bool (okK x)) ∧ Below w.heap.size w w' := by
  obtain ⟨u, s, k⟩ := x
  have hok : okK ⟨u, s, k⟩ = decide ((1 : Int) ≤ u.size ∧ (u.size : Int) ≤ 64 ∧ 0 ≤ s ∧ s ≤ 1099511627776 ∧ 1 ≤ k ∧ k ≤ 3) := by
    unfold okK
    rw [Bool.eq_iff_iff]
    simp only [Bool.and_eq_true, decide_eq_true_eq]
    omega
  rw [hok]
  clear hok
  obtain ⟨B, hB⟩ : ∃ B : Bool, B = decide ((1 : Int) ≤ u.size ∧ (u.size : Int) ≤ 64 ∧ 0 ≤ s ∧ s ≤ 1099511627776 ∧ 1 ≤ k ∧ k ≤ 3) := ⟨_, rfl⟩
  rw [← hB]
  have HB := Lib.hid hB
  clear hB
  dsimp only
  go_enter Try.func66, Try.ntmps66
  go_wp2
  all_goals go_ret
  all_goals refine ⟨?_, (Below.refl _ _).alloc (Nat.le_refl _) _⟩
  all_goals first
    | (show Ending.returned (.bool false) = _; rw [HB.out, decide_eq_false (by omega)])
    | (show Ending.returned (.bool true) = _; rw [HB.out, decide_eq_true (by omega)])
    | (show Ending.returned (.bool (decide _)) = _; rw [HB.out]; refine congrArg (fun q => Ending.returned (.bool q)) (decide_eq_decide.2 ?_); omega)
    | skip
theorem cmp3_any (x y : Ky) (hx : x.u.size ≤ maxLen) (hy : y.u.size ≤ maxLen) (w : World) : Calls Try.prog 67 #[.agg #[.string x.u, .int .i64 x.s, .int .i64 x.k], .agg #[.string y.u, .int .i64 y.s, .int .i64 y.k]] w fun e w' => e = .returned (.int .i64 (cmpK x y)) ∧ Below w.heap.size w w' := by
  have ho := fun W => order_any x.u y.u hx hy W
  have hc : cmpK x y = if cmpB x.u y.u = 0 then (if y.s < x.s then -1 else if x.s < y.s then 1 else if y.k < x.k then -1 else if x.k < y.k then 1 else 0) else cmpB x.u y.u := by
    rw [← or3_cmpK]
    unfold or3 cmpI
    split <;> (repeat' split) <;> omega
  clear hx hy
  obtain ⟨u, s, k⟩ := x
  obtain ⟨u', s', k'⟩ := y
  dsimp only at ho hc ⊢
  generalize cmpB u u' = c at *
  generalize cmpK ⟨u, s, k⟩ ⟨u', s', k'⟩ = r at *
  have Hr := Lib.hid hc
  clear hc
  have Ho := Lib.hid ho
  clear ho
  go_enter Try.func67, Try.ntmps67
  go_wp2_with fail
  refine (Ho.out _).mono ?_
  rintro e w1 ⟨rfl, nd, rfl⟩
  by_cases hc0 : c = 0
  · subst hc0
    rw [if_pos rfl] at Hr
    go_wp2
    all_goals go_ret
    all_goals refine ⟨?_, (((Below.refl _ _).alloc (Nat.le_refl _) _).alloc (by simp) _).trans ⟨rfl, rfl, rfl, Nat.le_refl _, fun _ _ => rfl⟩⟩
    all_goals first
      | (show Ending.returned (.int .i64 (-1)) = _; rw [Hr.out]; refine congrArg (fun q => Ending.returned (.int .i64 q)) ?_; (repeat' split) <;> omega)
      | (show Ending.returned (.int .i64 1) = _; rw [Hr.out]; refine congrArg (fun q => Ending.returned (.int .i64 q)) ?_; (repeat' split) <;> omega)
      | (show Ending.returned (.int .i64 0) = _; rw [Hr.out]; refine congrArg (fun q => Ending.returned (.int .i64 q)) ?_; (repeat' split) <;> omega)
      | skip
  · rw [if_neg hc0] at Hr
    have hcb : (c != 0) = true := by simpa using hc0
    go_wp2
    go_ret
    exact ⟨by rw [Hr.out]; rfl, (((Below.refl _ _).alloc (Nat.le_refl _) _).alloc (by simp) _).trans ⟨rfl, rfl, rfl, Nat.le_refl _, fun _ _ => rfl⟩⟩
end Go.Proofs.Ythjjelomlgmllaa.Tithe
namespace Go.Proofs.Ythjjelomlgmllaa.Tithe
open Go.RowKit Go.Sort Go.Shelf
set_option linter.unusedVariables false
set_option linter.unusedSimpArgs false
set_option maxRecDepth 100000
theorem refsOk_false {l : List (Int × Int)} {k : Nat} (h : refOk l k = false) : ∀ n, k < n → refsOk l n = false
  | 0, hn => by omega
  | n + 1, hn => by
    show (refsOk l n && refOk l n) = false
    by_cases e : k = n
    · subst e; rw [h, Bool.and_false]
    · rw [refsOk_false h n (by omega)]; rfl
theorem right3_yes {x : Ky} (h : okK x = true) (w : World) : Calls Try.prog 66 #[.agg #[.string x.u, .int .i64 x.s, .int .i64 x.k]] w fun e w' => e = .returned (.bool true) ∧ Below w.heap.size w w' := by
  have := right3_any x w
  rwa [h] at this
theorem right3_no {x : Ky} (h : okK x = false) (w : World) : Calls Try.prog 66 #[.agg #[.string x.u, .int .i64 x.s, .int .i64 x.k]] w fun e w' => e = .returned (.bool false) ∧ Below w.heap.size w w' := by
  have := right3_any x w
  rwa [h] at this
set_option maxHeartbeats 4000000 in
theorem right15_any (z n : Int) (a b : Ky) (vr : Value) (l : List (Int × Int)) (w : World) (h : IsRr w vr l) (hl : l.length ≤ 1000000) (hau : a.u.size ≤ maxLen) (hbu : b.u.size ≤ maxLen) :
    Calls Try.prog 35 #[metaV z n a b vr] w fun e w' => e = .returned (.bool (metaOk z n a b l)) ∧ Below w.heap.size w w' := by
  obtain ⟨va, c, rfl, -, -, -⟩ := id h
  obtain ⟨-, hc, hm, hx⟩ := h.at
  obtain ⟨m, hm2⟩ : ∃ m, m = l.length := ⟨_, rfl⟩
  unfold metaOk metaV
  rw [← hm2] at hx hc hl ⊢
  have Hx := Lib.hid hx
  have Hm2 := Lib.hid hm2
  have HC := Lib.hid (cmp3_any a b hau hbu)
  clear h hx hm2 hau hbu
  obtain ⟨B, hB⟩ : ∃ B : Bool, B = (headOk z n a b && refsOk l m) := ⟨_, rfl⟩
  rw [← hB]
  have HB0 := Lib.hid hB
  clear hB
  have hbk := blk_of_alloc w (.cells #[.int .i64 z, .int .i64 n, .string a.u, .int .i64 a.s, .int .i64 a.k, .string b.u, .int .i64 b.s, .int .i64 b.k, .slice va m c] 85)
  have hls : w.heap.size + 1 ≤ (w.alloc (.cells #[.int .i64 z, .int .i64 n, .string a.u, .int .i64 a.s, .int .i64 a.k, .string b.u, .int .i64 b.s, .int .i64 b.k, .slice va m c] 85)).heap.size := by rw [World.size_alloc]; omega
  have hbw : Below w.heap.size w (w.alloc (.cells #[.int .i64 z, .int .i64 n, .string a.u, .int .i64 a.s, .int .i64 a.k, .string b.u, .int .i64 b.s, .int .i64 b.k, .slice va m c] 85)) := (Below.refl _ _).alloc (Nat.le_refl _) _
  have hcc := fun j => cell_of_blk hbk j
  have Hlt := Lib.hid (blk_lt hbk)
  have Hbk := Lib.hid hbk
  have Hls := Lib.hid hls
  have Hbw := Lib.hid hbw
  clear hbk hls hbw
  go_enter Try.func35, Try.ntmps35
  go_upto_region 1 with fail
  generalize w.alloc (.cells #[.int .i64 z, .int .i64 n, .string a.u, .int .i64 a.s, .int .i64 a.k, .string b.u, .int .i64 b.s, .int .i64 b.k, .slice va m c] 85) = W at *
  by_cases h1 : 0 ≤ z
  rotate_left
  · have d1 : decide (z < 0) = true := decide_eq_true (by omega)
    have hh : headOk z n a b = false := by unfold headOk zoneOk; simp [h1]
    rw [hh, Bool.false_and] at HB0
    clear hh
    go_wp2_with fail
    go_ret
    exact ⟨by rw [HB0.out]; rfl, Hbw.out⟩
  have d1 : decide (z < 0) = false := decide_eq_false (by omega)
  by_cases h2 : z < 64
  rotate_left
  · have d2 : decide (z > 63) = true := decide_eq_true (by omega)
    have d2b : decide (63 < z) = true := decide_eq_true (by omega)
    have hh : headOk z n a b = false := by unfold headOk zoneOk; simp [h2]
    rw [hh, Bool.false_and] at HB0
    clear hh
    go_wp2_with fail
    go_ret
    exact ⟨by rw [HB0.out]; rfl, Hbw.out⟩
  have d2 : decide (z > 63) = false := decide_eq_false (by omega)
  have d2b : decide (63 < z) = false := decide_eq_false (by omega)
  by_cases h3 : 1 ≤ n
  rotate_left
  · have d3 : decide (n < 1) = true := decide_eq_true (by omega)
    have hh : headOk z n a b = false := by unfold headOk zoneOk; simp [h3]
    rw [hh, Bool.false_and] at HB0
    clear hh
    go_wp2_with fail
    go_ret
    exact ⟨by rw [HB0.out]; rfl, Hbw.out⟩
  have d3 : decide (n < 1) = false := decide_eq_false (by omega)
  by_cases h4 : n ≤ 65536
  rotate_left
  · have d4 : decide (n > 65536) = true := decide_eq_true (by omega)
    have d4b : decide (65536 < n) = true := decide_eq_true (by omega)
    have hh : headOk z n a b = false := by unfold headOk zoneOk; simp [h4]
    rw [hh, Bool.false_and] at HB0
    clear hh
    go_wp2_with fail
    go_ret
    exact ⟨by rw [HB0.out]; rfl, Hbw.out⟩
  have d4 : decide (n > 65536) = false := decide_eq_false (by omega)
  have d4b : decide (65536 < n) = false := decide_eq_false (by omega)
  cases ha : okK a with
  | false =>
    have HA := Lib.hid (right3_no ha)
    have hh : headOk z n a b = false := by unfold headOk zoneOk; simp [ha]
    rw [hh, Bool.false_and] at HB0
    clear hh
    go_wp2_with (first
      | (go_at_call 66; (with_reducible refine (HA.out _).mono ?_); rintro e w1 ⟨rfl, hb1⟩; have hk1 := blk_bels hb1 Hbk.out; have hc1 := fun j => cell_of_blk hk1 j; have Hk1 := Lib.hid hk1; have B1 := Lib.hid (Hbw.out.trans (hb1.mono Hbw.out.size)); clear hk1 hb1))
    go_ret
    exact ⟨by rw [HB0.out]; rfl, B1.out⟩
  | true =>
    have HA := Lib.hid (right3_yes ha)
    cases hbk : okK b with
    | false =>
      have HB := Lib.hid (right3_no hbk)
      have hh : headOk z n a b = false := by unfold headOk zoneOk; simp [hbk]
      rw [hh, Bool.false_and] at HB0
      clear hh
      go_wp2_with (first
        | (go_at_call 66; (with_reducible refine (HA.out _).mono ?_); rintro e w1 ⟨rfl, hb1⟩; have hk1 := blk_bels hb1 Hbk.out; have hc1 := fun j => cell_of_blk hk1 j; have Hk1 := Lib.hid hk1; have B1 := Lib.hid (Hbw.out.trans (hb1.mono Hbw.out.size)); clear hk1 hb1)
        | (go_at_call 66; (with_reducible refine (HB.out _).mono ?_); rintro e w2 ⟨rfl, hb2⟩; have hk2 := blk_bels hb2 Hk1.out; have hc2 := fun j => cell_of_blk hk2 j; have Hk2 := Lib.hid hk2; have B2 := Lib.hid (B1.out.trans (hb2.mono B1.out.size)); clear hk2 hb2))
      go_ret
      exact ⟨by rw [HB0.out]; rfl, B2.out⟩
    | true =>
      have HB := Lib.hid (right3_yes hbk)
      by_cases h5 : cmpK a b ≤ 0
      rotate_left
      · have d5 : decide (cmpK a b > 0) = true := decide_eq_true (by omega)
        have d5b : decide (0 < cmpK a b) = true := decide_eq_true (by omega)
        have hh : headOk z n a b = false := by unfold headOk zoneOk; simp [h5]
        rw [hh, Bool.false_and] at HB0
        clear hh
        generalize hcv : cmpK a b = cv at *
        go_wp2_with (first
          | (go_at_call 66; (with_reducible refine (HA.out _).mono ?_); rintro e w1 ⟨rfl, hb1⟩; have hk1 := blk_bels hb1 Hbk.out; have hc1 := fun j => cell_of_blk hk1 j; have Hk1 := Lib.hid hk1; have B1 := Lib.hid (Hbw.out.trans (hb1.mono Hbw.out.size)); clear hk1 hb1)
          | (go_at_call 66; (with_reducible refine (HB.out _).mono ?_); rintro e w2 ⟨rfl, hb2⟩; have hk2 := blk_bels hb2 Hk1.out; have hc2 := fun j => cell_of_blk hk2 j; have Hk2 := Lib.hid hk2; have B2 := Lib.hid (B1.out.trans (hb2.mono B1.out.size)); clear hk2 hb2)
          | (go_at_call 67; (with_reducible refine (HC.out _).mono ?_); rintro e w3 ⟨rfl, hb3⟩; have hk3 := blk_bels hb3 Hk2.out; have hc3 := fun j => cell_of_blk hk3 j; have Hk3 := Lib.hid hk3; have B3 := Lib.hid (B2.out.trans (hb3.mono B2.out.size)); clear hk3 hb3))
        go_ret
        exact ⟨by rw [HB0.out]; rfl, B3.out⟩
      have d5 : decide (cmpK a b > 0) = false := decide_eq_false (by omega)
      have d5b : decide (0 < cmpK a b) = false := decide_eq_false (by omega)
      have hh : headOk z n a b = true := by unfold headOk zoneOk; simp [h1, h2, h3, h4, ha, hbk, h5]
      rw [hh, Bool.true_and] at HB0
      clear hh ha hbk h5
      generalize cmpK a b = cv at *
      go_wp2_with (first
        | (go_at_call 66; (with_reducible refine (HA.out _).mono ?_); rintro e w1 ⟨rfl, hb1⟩; have hk1 := blk_bels hb1 Hbk.out; have hc1 := fun j => cell_of_blk hk1 j; have Hk1 := Lib.hid hk1; have B1 := Lib.hid (Hbw.out.trans (hb1.mono Hbw.out.size)); clear hk1 hb1)
        | (go_at_call 66; (with_reducible refine (HB.out _).mono ?_); rintro e w2 ⟨rfl, hb2⟩; have hk2 := blk_bels hb2 Hk1.out; have hc2 := fun j => cell_of_blk hk2 j; have Hk2 := Lib.hid hk2; have B2 := Lib.hid (B1.out.trans (hb2.mono B1.out.size)); clear hk2 hb2)
        | (go_at_call 67; (with_reducible refine (HC.out _).mono ?_); rintro e w3 ⟨rfl, hb3⟩; have hk3 := blk_bels hb3 Hk2.out; have hc3 := fun j => cell_of_blk hk3 j; have Hk3 := Lib.hid hk3; have B3 := Lib.hid (B2.out.trans (hb3.mono B2.out.size)); clear hk3 hb3))
      clear hc1 hc2 hc3 d1 d2 d2b d3 d4 d4b d5 d5b h1 h2 h3 h4 hcc
      have H8 := Lib.hid ((cell_of_blk Hk3.out 8).trans (show _ = some (.slice va m c) from rfl))
      have Hlt3 := Lib.hid (blk_lt Hk3.out)
      go_loopw [3] (fun iv wr => ∃ k : Nat, k ≤ m ∧ iv = .int .i64 k ∧ refsOk l k = true ∧ Below w3.heap.size w3 wr) (fun iv _ => m - (intOf iv).toNat)
      case atStart => exact ⟨0, Nat.zero_le _, rfl, rfl, Below.refl _ _⟩
      case round =>
        obtain ⟨wo, rfl⟩ : ∃ wo : World, wo = wr := ⟨_, rfl⟩
        obtain ⟨k, hk, rfl, hr, hbr⟩ := hrel
        have Hbr := Lib.hid hbr
        have Hr := Lib.hid hr
        have hb8 : wo.cell? ⟨w.heap.size, 8, none⟩ = some (.slice va m c) := grow_cell hbr Hlt3.out H8.out
        clear hbr hr
        by_cases hkm : k < m
        rotate_left
        · obtain rfl : k = m := by omega
          go_wp2
          go_ret
          exact ⟨by rw [HB0.out, Hr.out]; rfl, B3.out.trans (Hbr.out.mono B3.out.size)⟩
        obtain ⟨rb, off, rfl, hrow0⟩ := Hx.out (by omega)
        have hrow : ∀ (i : Nat) (x : Int × Int), l[i]? = some x → ∀ (j : Nat) (y : Value), (rfC x)[j]? = some y → wo.cell? ⟨rb, off + i * 2 + j, none⟩ = some y := fun i x hi j y hj =>
          grow_cell (B3.out.trans (Hbr.out.mono B3.out.size)) (block_lt_of_cell (hrow0 i x hi j y hj)) (hrow0 i x hi j y hj)
        obtain ⟨⟨x, y⟩, hxk⟩ : ∃ x, l[k]? = some x := ⟨_, List.getElem?_eq_getElem (by rw [← Hm2.out]; exact hkm)⟩
        have hg : l.getD k (0, 0) = (x, y) := by rw [List.getD_eq_getElem?_getD, hxk]; rfl
        have c0 := hrow k _ hxk 0 _ rfl
        have c1 := hrow k _ hxk 1 _ rfl
        rw [Nat.add_zero] at c0
        dsimp only at c0 c1
        have Hrow := Lib.hid hrow
        have hwb : ∀ nd, Below w.heap.size w ((wo.alloc (.cells #[.int .i64 x, .int .i64 y] 88)).drewN nd) := fun nd => (((B3.out.trans (Hbr.out.mono B3.out.size)).alloc (Nat.le_trans B3.out.size Hbr.out.size) _)).trans ⟨rfl, rfl, rfl, Nat.le_refl _, fun _ _ => rfl⟩
        have hwb3 : ∀ nd, Below w3.heap.size w3 ((wo.alloc (.cells #[.int .i64 x, .int .i64 y] 88)).drewN nd) := fun nd => (Hbr.out.alloc Hbr.out.size _).trans ⟨rfl, rfl, rfl, Nat.le_refl _, fun _ _ => rfl⟩
        have Hwb := Lib.hid hwb
        have Hwb3 := Lib.hid hwb3
        have hwr : k ≠ 0 → IntKind.i64.wrap ((k : Int) - 1) = (k : Int) - 1 := fun h0 => by
          have := Lib.wrap_i64_small (k - 1) (by omega)
          rw [Int.natCast_sub (by omega)] at this
          exact this
        have hj1 : ((k : Int) - 1).toNat = k - 1 := by omega
        clear hrow0 hrow hxk hwb hwb3
        by_cases g1 : 0 ≤ x
        rotate_left
        · have e1 : decide (x < 0) = true := decide_eq_true (by omega)
          have hh : refOk l k = false := by unfold refOk zoneOk; rw [hg]; simp [g1]
          have Hh := Lib.hid (refsOk_false hh m hkm)
          clear hh hg
          go_wp2_with fail
          go_quiet (fail)
          go_wp2
          go_ret
          exact ⟨by rw [HB0.out, Hh.out]; rfl, Hwb.out _⟩
        have e1 : decide (x < 0) = false := decide_eq_false (by omega)
        by_cases g2 : x < 64
        rotate_left
        · have e2 : decide (x > 63) = true := decide_eq_true (by omega)
          have e2b : decide (63 < x) = true := decide_eq_true (by omega)
          have hh : refOk l k = false := by unfold refOk zoneOk; rw [hg]; simp [g2]
          have Hh := Lib.hid (refsOk_false hh m hkm)
          clear hh hg
          go_wp2_with fail
          go_quiet (fail)
          go_wp2
          go_ret
          exact ⟨by rw [HB0.out, Hh.out]; rfl, Hwb.out _⟩
        have e2 : decide (x > 63) = false := decide_eq_false (by omega)
        have e2b : decide (63 < x) = false := decide_eq_false (by omega)
        by_cases g3 : 1 ≤ y
        rotate_left
        · have e3 : decide (y < 1) = true := decide_eq_true (by omega)
          have hh : refOk l k = false := by unfold refOk zoneOk; rw [hg]; simp [g3]
          have Hh := Lib.hid (refsOk_false hh m hkm)
          clear hh hg
          go_wp2_with fail
          go_quiet (fail)
          go_wp2
          go_ret
          exact ⟨by rw [HB0.out, Hh.out]; rfl, Hwb.out _⟩
        have e3 : decide (y < 1) = false := decide_eq_false (by omega)
        by_cases g4 : y ≤ 1073741824
        rotate_left
        · have e4 : decide (y > 1073741824) = true := decide_eq_true (by omega)
          have e4b : decide (1073741824 < y) = true := decide_eq_true (by omega)
          have hh : refOk l k = false := by unfold refOk zoneOk; rw [hg]; simp [g4]
          have Hh := Lib.hid (refsOk_false hh m hkm)
          clear hh hg
          go_wp2_with fail
          go_quiet (fail)
          go_wp2
          go_ret
          exact ⟨by rw [HB0.out, Hh.out]; rfl, Hwb.out _⟩
        have e4 : decide (y > 1073741824) = false := decide_eq_false (by omega)
        have e4b : decide (1073741824 < y) = false := decide_eq_false (by omega)
        by_cases h3 : k = 0
        · subst h3
          have ek : decide (((0 : Nat) : Int) > 0) = false := rfl
          simp only [Nat.zero_mul, Nat.add_zero] at c0 c1
          have hh : refsOk l (0 + 1) = true := by
            show (refsOk l 0 && refOk l 0) = true
            unfold refOk zoneOk; rw [hg]; simp [Hr.out, g1, g2, g3, g4]
          have Hh := Lib.hid hh
          clear hh hg
          go_wp2_with fail
          go_quiet (fail)
          go_wp2
          go_roundw
          case rel => exact ⟨0 + 1, by omega, by go_num, Hh.out, Hwb3.out _⟩
          case measure => simp [intOf]; omega
        have ek : decide ((k : Int) > 0) = true := decide_eq_true (by omega)
        have ek2 : decide (0 < (k : Int)) = true := decide_eq_true (by omega)
        have ek3 : decide (0 < k) = true := decide_eq_true (by omega)
        have ek4 : 0 < k := by omega
        obtain ⟨⟨px, py⟩, hpx⟩ : ∃ x, l[k - 1]? = some x := ⟨_, List.getElem?_eq_getElem (by rw [← Hm2.out]; omega)⟩
        have hgp : l.getD (k - 1) (0, 0) = (px, py) := by rw [List.getD_eq_getElem?_getD, hpx]; rfl
        have pc0 := Hrow.out (k - 1) _ hpx 0 _ rfl
        rw [Nat.add_zero] at pc0
        dsimp only at pc0
        have hw2 := hwr h3
        have hi1 : (1 : Int) ≤ (k : Int) := by omega
        have hi2 : (0 : Int) ≤ (k : Int) - 1 := by omega
        have hi3 : (k : Int) - 1 < (m : Int) := by omega
        have pc1 := fun o => grow_alloc pc0 o
        have pc8 := fun o => grow_alloc hb8 o
        clear hpx
        by_cases g5 : px < x
        · have e5 : decide (px ≥ x) = false := decide_eq_false (by omega)
          have e5b : decide (x ≤ px) = false := decide_eq_false (by omega)
          have hh : refsOk l (k + 1) = true := by
            show (refsOk l k && refOk l k) = true
            unfold refOk zoneOk; rw [hg, hgp]; simp [Hr.out, g1, g2, g3, g4, h3, g5]
          have Hh := Lib.hid hh
          clear hh hg hgp
          go_wp2_with fail
          go_quiet (fail)
          go_wp2
          go_roundw
          case rel => exact ⟨k + 1, by omega, by go_num, Hh.out, Hwb3.out _⟩
          case measure => simp [intOf]; omega
        · have e5 : decide (px ≥ x) = true := decide_eq_true (by omega)
          have e5b : decide (x ≤ px) = true := decide_eq_true (by omega)
          have hh : refOk l k = false := by unfold refOk zoneOk; rw [hg, hgp]; simp [h3, g5]
          have Hh := Lib.hid (refsOk_false hh m hkm)
          clear hh hg hgp
          go_wp2_with fail
          go_quiet (fail)
          go_wp2
          go_ret
          exact ⟨by rw [HB0.out, Hh.out]; rfl, Hwb.out _⟩
end Go.Proofs.Ythjjelomlgmllaa.Tithe
namespace Go.Proofs.Ythjjelomlgmllaa.Tithe
open Go.RowKit Go.Sort Go.Shelf
set_option linter.unusedVariables false
set_option linter.unusedSimpArgs false
set_option maxRecDepth 100000
theorem ref15Info : (Try.prog.info? 88).map (fun i => (i.zero, i.size, i.bytes)) = some (some (.agg #[.int .i64 0, .int .i64 0]), 2, 16) := by kernel_rfl
theorem pl15Info : (Try.prog.info? 90).map (fun i => (i.zero, i.size, i.bytes)) = some (some (.agg #[.int .i64 0, .int .i64 0, .int .i64 0, .string ⟨#[]⟩, .int .i64 0, .int .i64 0, .string ⟨#[]⟩, .int .i64 0, .int .i64 0, .slice none 0 0]), 10, 112) := by kernel_rfl
abbrev OwnRx (W : World) (base : Nat) (v : Value) (l : List (Int × Int)) : Prop := W.ownsRow base 88 2 v l.length (flat rfC l)
def OwnPx (W : World) (base : Nat) (v : Value) (l : List (Int × Mr)) : Prop := W.ownsRow base 90 10 v l.length (flat plC l) ∧ ∀ p ∈ l, OwnRx W base p.2.2 p.2.1.refs
theorem OwnPx.nil (W : World) (base : Nat) : OwnPx W base (.slice none 0 0) [] := ⟨World.ownsRow_nil _ _ _ _, fun p hp => by cases hp⟩
theorem OwnPx.below {W W' : World} {base : Nat} {v : Value} {l : List (Int × Mr)} (h : OwnPx W base v l) (hb : Below W.heap.size W W') : OwnPx W' base v l := ⟨own_below h.1 hb, fun p hp => own_below (h.2 p hp) hb⟩
theorem below9 {w V : World} {b B : Nat} (h : Below B w V) (hb : B ≤ b) (x0 x1 x2 x3 x4 x5 x6 x7 x8 : Value) : Below B w (((((((((V.setCell ⟨b, 0, none⟩ x0).setCell ⟨b, 1, none⟩ x1).setCell ⟨b, 2, none⟩ x2).setCell ⟨b, 3, none⟩ x3).setCell ⟨b, 4, none⟩ x4).setCell ⟨b, 5, none⟩ x5).setCell ⟨b, 6, none⟩ x6).setCell ⟨b, 7, none⟩ x7).setCell ⟨b, 8, none⟩ x8) := by
  iterate 9 refine Below.setCell (p := ⟨b, _, none⟩) ?_ hb _
  exact h
theorem OwnPx.set5 {X : World} {base ob : Nat} {v : Value} {l : List (Int × Mr)} {cs : Array Value} {fr : Nat × Nat} (h : OwnPx X base v l) (hob : X.heap[ob]? = some (.cells cs 32 fr)) (x0 x1 x2 x3 x4 : Value) :
    OwnPx (((((X.setCell ⟨ob, 0, none⟩ x0).setCell ⟨ob, 1, none⟩ x1).setCell ⟨ob, 2, none⟩ x2).setCell ⟨ob, 3, none⟩ x3).setCell ⟨ob, 4, none⟩ x4) base v l := by
  have hk := fun k hk => set5_oth X ob x0 x1 x2 x3 x4 k hk
  exact ⟨own_other h.1 hob (by decide) hk, fun p hp => own_other (h.2 p hp) hob (by decide) hk⟩
theorem push_rx (W : World) (base : Nat) (v : Value) (l : List (Int × Int)) (x : Int × Int) (h : OwnRx W base v l) (hl : l.length ≤ 1000000) (hb : base ≤ W.heap.size) :
    ∃ (a' : Option Addr) (n' c' : Nat) (w2 : World), (Builtin.append_ #[83, 83] 83 #[v, .slice (some ⟨W.heap.size, 0, none⟩) 1 1]).run Try.prog (W.alloc (.cells #[.int .i64 x.1, .int .i64 x.2] 88)) = .ok (.slice a' n' c') w2 ∧ OwnRx w2 base (.slice a' n' c') (l ++ [x]) ∧ (W.alloc (.cells #[.int .i64 x.1, .int .i64 x.2] 88)).grownBy w2 v.ownBlock := by
  obtain ⟨i0, hi0, hz0, hz1, hz2⟩ := info_partsR ref15Info
  exact push_k rfC_len (by decide) Try.underlying83 hi0 hz0 hz1 hz2 rfl (by decide) W base v l x (fun u hu => by simp [rfC] at hu; rcases hu with rfl | rfl <;> rfl) h hl hb
theorem push_px (W : World) (base : Nat) (v : Value) (l : List (Int × Mr)) (x : Int × Mr) (hx : ∃ a n c, x.2.2 = .slice a n c) (h : W.ownsRow base 90 10 v l.length (flat plC l)) (hl : l.length ≤ 1000000) (hb : base ≤ W.heap.size) :
    ∃ (a' : Option Addr) (n' c' : Nat) (w2 : World), (Builtin.append_ #[30, 30] 30 #[v, .slice (some ⟨W.heap.size, 0, none⟩) 1 1]).run Try.prog (W.alloc (.cells #[.int .i64 x.1, .int .i64 x.2.1.z, .int .i64 x.2.1.n, .string x.2.1.a.u, .int .i64 x.2.1.a.s, .int .i64 x.2.1.a.k, .string x.2.1.b.u, .int .i64 x.2.1.b.s, .int .i64 x.2.1.b.k, x.2.2] 90)) = .ok (.slice a' n' c') w2 ∧ w2.ownsRow base 90 10 (.slice a' n' c') (l ++ [x]).length (flat plC (l ++ [x])) ∧ (W.alloc (.cells #[.int .i64 x.1, .int .i64 x.2.1.z, .int .i64 x.2.1.n, .string x.2.1.a.u, .int .i64 x.2.1.a.s, .int .i64 x.2.1.a.k, .string x.2.1.b.u, .int .i64 x.2.1.b.s, .int .i64 x.2.1.b.k, x.2.2] 90)).grownBy w2 v.ownBlock := by
  obtain ⟨i0, hi0, hz0, hz1, hz2⟩ := info_partsR pl15Info
  obtain ⟨a, n, c, hx⟩ := hx
  exact push_k plC_len (by decide) Try.underlying30 hi0 hz0 hz1 hz2 rfl (by decide) W base v l x (fun u hu => by simp [plC, mrC] at hu; rcases hu with rfl | rfl | rfl | rfl | rfl | rfl | rfl | rfl | rfl | rfl <;> first | rfl | (rw [hx]; rfl)) h hl hb
attribute [local go_sem] Oper.semAt_some
theorem rkey16_any (x : Ky) (w : World) : Calls Try.prog 29 #[.agg #[.string x.u, .int .i64 x.s, .int .i64 x.k]] w fun e w' => e = .returned (.agg #[.string x.u, .int .i64 x.s, .int .i64 x.k]) ∧ Below w.heap.size w w' := by
  obtain ⟨u, s, k⟩ := x
  dsimp only
  have hA1 : Below w.heap.size w (w.alloc (.cells #[.string u, .int .i64 s, .int .i64 k] 75)) := (Below.refl _ _).alloc (Nat.le_refl _) _
  have hK1 := blk_of_alloc w (.cells #[.string u, .int .i64 s, .int .i64 k] 75)
  obtain ⟨Wa, hWa⟩ : ∃ q : World, q = w.alloc (.cells #[.string u, .int .i64 s, .int .i64 k] 75) := ⟨_, rfl⟩
  have hs1 : Wa.heap.size = w.heap.size + 1 := by rw [hWa, World.size_alloc]
  rw [← hWa] at hA1 hK1
  have hA2 : Below Wa.heap.size Wa (Wa.alloc (.cells #[.string ⟨#[]⟩, .int .i64 0, .int .i64 0] 81)) := (Below.refl _ _).alloc (Nat.le_refl _) _
  have hK2 := blk_of_alloc Wa (.cells #[.string ⟨#[]⟩, .int .i64 0, .int .i64 0] 81)
  rw [hs1] at hK2
  have HO := Lib.hid hK2
  have HK := Lib.hid (blk_bels hA2 hK1)
  have HB := Lib.hid (hA1.trans (hA2.mono hA1.size))
  obtain ⟨ob, hob⟩ : ∃ q, q = w.heap.size + 1 := ⟨_, rfl⟩
  obtain ⟨kb, hkb⟩ : ∃ q, q = w.heap.size := ⟨_, rfl⟩
  have Hob : Hid (ob = w.heap.size + 1 ∧ kb = w.heap.size) := Lib.hid ⟨hob, hkb⟩
  have HWa := Lib.hid hWa
  rw [← hob] at HO
  rw [← hkb] at HK
  clear hA1 hK1 hWa hs1 hA2 hK2 hob hkb
  go_enter Try.func29, Try.ntmps29
  go_upto_region 1 with fail
  rw [← HWa.out]
  rw [← Hob.out.1, ← Hob.out.2]
  generalize Wa.alloc (.cells #[.string ⟨#[]⟩, .int .i64 0, .int .i64 0] 81) = W at *
  have c0 : W.cell? ⟨kb, 0, none⟩ = some (.string u) := by rw [cell_blkR HK.out]; rfl
  have c1 : W.cell? ⟨kb, 1, none⟩ = some (.int .i64 s) := by rw [cell_blkR HK.out]; rfl
  have c2 : W.cell? ⟨kb, 2, none⟩ = some (.int .i64 k) := by rw [cell_blkR HK.out]; rfl
  have hobx := HO.out
  have x0 := frozen_blkR hobx 0
  have x1 := frozen_blkR hobx 1
  have x2 := frozen_blkR hobx 2
  have y0 : W.cell? ⟨ob, 0, none⟩ = some (.string ⟨#[]⟩) := by rw [cell_blkR hobx]; rfl
  have y1 : W.cell? ⟨ob, 1, none⟩ = some (.int .i64 0) := by rw [cell_blkR hobx]; rfl
  have y2 : W.cell? ⟨ob, 2, none⟩ = some (.int .i64 0) := by rw [cell_blkR hobx]; rfl
  have Hres : Hid ((((W.setCell ⟨ob, 0, none⟩ (.string u)).setCell ⟨ob, 1, none⟩ (.int .i64 s)).setCell ⟨ob, 2, none⟩ (.int .i64 k)).heap[ob]? = some (.cells #[.string u, .int .i64 s, .int .i64 k] 81 (0, 0))) := Lib.hid (by rw [blk_setCellR (blk_setCellR (blk_setCellR hobx))]; rfl)
  have HBf := Lib.hid (Below.setCell (p := ⟨ob, 2, none⟩) (Below.setCell (p := ⟨ob, 1, none⟩) (Below.setCell (p := ⟨ob, 0, none⟩) HB.out (show w.heap.size ≤ ob by have := Hob.out; omega) (.string u)) (show w.heap.size ≤ ob by have := Hob.out; omega) (.int .i64 s)) (show w.heap.size ≤ ob by have := Hob.out; omega) (.int .i64 k))
  clear hobx
  go_wp2_with fail
  refine bodyPost_ret (v := .agg #[.string u, .int .i64 s, .int .i64 k]) ?_ rfl ⟨rfl, HBf.out⟩
  have hres := Hres.out
  have z0 := cell_blkR hres 0
  have z1 := cell_blkR hres 1
  have z2 := cell_blkR hres 2
  simp only [List.getElem?_toArray, List.getElem?_cons_zero, List.getElem?_cons_succ] at z0 z1 z2
  generalize ((W.setCell ⟨ob, 0, none⟩ (.string u)).setCell ⟨ob, 1, none⟩ (.int .i64 s)).setCell ⟨ob, 2, none⟩ (.int .i64 k) = F at *
  simp [results, Try.results29, go_sem, z0, z1, z2]
set_option maxHeartbeats 12800000 in
theorem ref16_any (wh : Bool) (s : Int) (vl va vd : Value) (ad : List (Int × Mr)) (w : World) (hvl : ∃ a n c, vl = .slice a n c) (hvd : ∃ a n c, vd = .slice a n c) (ha : IsPl w va ad) (hal : ad.length ≤ 100000) (hrl : ∀ p ∈ ad, p.2.1.refs.length ≤ 1000000) :
    Calls Try.prog 11 #[.agg #[.bool wh, .int .i64 s, vl, va, vd]] w fun e w' => ∃ (va' : Value) (ad' : List (Int × Mr)), e = .returned (.agg #[.bool wh, .int .i64 s, vl, va', vd]) ∧ psM ad' = psM ad ∧ OwnPx w' w.heap.size va' ad' ∧ Below w.heap.size w w' := by
  obtain ⟨la, nl, lc, rfl⟩ := hvl
  obtain ⟨da, nd, dc, rfl⟩ := hvd
  obtain ⟨aa, ac, rfl, -, -, -⟩ := id ha.1
  obtain ⟨-, -, -, hax⟩ := ha.1.at
  obtain ⟨na, hna⟩ : ∃ q, q = ad.length := ⟨_, rfl⟩
  rw [← hna] at hax ha hal ⊢
  have Hna := Lib.hid hna
  have Hax := Lib.hid hax
  have HAr := Lib.hid ha.2
  have HR := Lib.hid hrl
  clear hna hax ha hrl
  have hA1 : Below w.heap.size w (w.alloc (.cells #[.bool wh, .int .i64 s, .slice la nl lc, .slice aa na ac, .slice da nd dc] 27)) := (Below.refl _ _).alloc (Nat.le_refl _) _
  have hK1 := blk_of_alloc w (.cells #[.bool wh, .int .i64 s, .slice la nl lc, .slice aa na ac, .slice da nd dc] 27)
  obtain ⟨Wa, hWa⟩ : ∃ q : World, q = w.alloc (.cells #[.bool wh, .int .i64 s, .slice la nl lc, .slice aa na ac, .slice da nd dc] 27) := ⟨_, rfl⟩
  have hs1 : Wa.heap.size = w.heap.size + 1 := by rw [hWa, World.size_alloc]
  rw [← hWa] at hA1 hK1
  have hA2 : Below Wa.heap.size Wa (Wa.alloc (.cells #[.bool false, .int .i64 0, .slice none 0 0, .slice none 0 0, .slice none 0 0] 32)) := (Below.refl _ _).alloc (Nat.le_refl _) _
  have hK2 := blk_of_alloc Wa (.cells #[.bool false, .int .i64 0, .slice none 0 0, .slice none 0 0, .slice none 0 0] 32)
  obtain ⟨Wb, hWb⟩ : ∃ q : World, q = Wa.alloc (.cells #[.bool false, .int .i64 0, .slice none 0 0, .slice none 0 0, .slice none 0 0] 32) := ⟨_, rfl⟩
  have hs2 : Wb.heap.size = w.heap.size + 1 + 1 := by rw [hWb, World.size_alloc, hs1]
  rw [hs1] at hK2
  rw [← hWb] at hA2 hK2
  have hSb := blk_bels hA2 hK1
  have hbb := hA1.trans (hA2.mono hA1.size)
  have hA3 : Below Wb.heap.size Wb (Wb.alloc (.cells #[.bool wh, .int .i64 s, .slice la nl lc, .slice none 0 0, .slice da nd dc] 32)) := (Below.refl _ _).alloc (Nat.le_refl _) _
  have hK3 := blk_of_alloc Wb (.cells #[.bool wh, .int .i64 s, .slice la nl lc, .slice none 0 0, .slice da nd dc] 32)
  rw [hs2] at hK3
  have HS := Lib.hid (blk_bels hA3 hSb)
  have HO := Lib.hid (blk_bels hA3 hK2)
  have HQ := Lib.hid hK3
  have HB := Lib.hid (hbb.trans (hA3.mono hbb.size))
  obtain ⟨rr, hrr⟩ : ∃ q, q = w.heap.size + 1 + 1 := ⟨_, rfl⟩
  obtain ⟨ob, hob⟩ : ∃ q, q = w.heap.size + 1 := ⟨_, rfl⟩
  obtain ⟨sb, hsb⟩ : ∃ q, q = w.heap.size := ⟨_, rfl⟩
  have Hob : Hid (rr = w.heap.size + 1 + 1 ∧ ob = w.heap.size + 1 ∧ sb = w.heap.size) := Lib.hid ⟨hrr, hob, hsb⟩
  have HWa := Lib.hid hWa
  have HWb := Lib.hid hWb
  rw [← hrr] at HQ
  rw [← hob] at HO hK2
  rw [← hsb] at HS hSb
  have HSb := Lib.hid hSb
  clear hA1 hK1 hWa hs1 hA2 hK2 hWb hs2 hSb hbb hA3 hK3 hrr hob hsb
  go_enter Try.func11, Try.ntmps11
  go_upto_region 1 with fail
  rw [← HWa.out, ← HWb.out, ← Hob.out.2.1, ← Hob.out.2.2]
  have b0 : Wb.cell? ⟨sb, 0, none⟩ = some (.bool wh) := by rw [cell_blkR HSb.out]; rfl
  have b1 : Wb.cell? ⟨sb, 1, none⟩ = some (.int .i64 s) := by rw [cell_blkR HSb.out]; rfl
  have b2 : Wb.cell? ⟨sb, 2, none⟩ = some (.slice la nl lc) := by rw [cell_blkR HSb.out]; rfl
  have b3 : Wb.cell? ⟨sb, 3, none⟩ = some (.slice aa na ac) := by rw [cell_blkR HSb.out]; rfl
  have b4 : Wb.cell? ⟨sb, 4, none⟩ = some (.slice da nd dc) := by rw [cell_blkR HSb.out]; rfl
  have hsz : Wb.heap.size = rr := by
    rw [HWb.out, World.size_alloc, HWa.out, World.size_alloc]; exact Hob.out.1.symm
  have Hsz := Lib.hid hsz
  clear hsz HWa HWb
  go_upto_region 2 with fail
  rw [Hsz.out]
  generalize Wb.alloc (.cells #[.bool wh, .int .i64 s, .slice la nl lc, .slice none 0 0, .slice da nd dc] 32) = W at *
  clear b0 b1 b2 b3 b4 Hsz HSb
  have s3 : W.cell? ⟨sb, 3, none⟩ = some (.slice aa na ac) := by rw [cell_blkR HS.out]; rfl
  go_wp2_with fail
  go_loopw [23] (fun iv wr => ∃ (k : Nat) (d : List (Int × Mr)) (xv : Value), k ≤ na ∧ iv = .int .i64 k ∧ d.length = k ∧ psM d = (psM ad).take k ∧ wr.heap[rr]? = some (.cells #[.bool wh, .int .i64 s, .slice la nl lc, xv, .slice da nd dc] 32 (0, 0)) ∧ wr.heap[ob]? = some (.cells #[.bool false, .int .i64 0, .slice none 0 0, .slice none 0 0, .slice none 0 0] 32 (0, 0)) ∧ OwnPx wr w.heap.size xv d ∧ Below w.heap.size w wr) (fun i _ => na - (intOf i).toNat)
  case atStart => exact ⟨0, [], .slice none 0 0, Nat.zero_le _, rfl, rfl, rfl, HQ.out, HO.out, OwnPx.nil _ _, HB.out⟩
  case round =>
    clear s3 HS HO HQ HB
    obtain ⟨wo, rfl⟩ : ∃ wo : World, wo = wr := ⟨_, rfl⟩
    obtain ⟨k, d, xv, hk, rfl, hd, hps, hq, ho, hpx, hb⟩ := hrel
    obtain ⟨xa, xc, rfl⟩ := own_slice hpx.1
    rw [hd] at hq
    have Hd := Lib.hid hd.symm
    have Hps := Lib.hid hps
    have Hq := Lib.hid hq
    have Ho := Lib.hid ho
    have Hpx := Lib.hid hpx
    have Hb := Lib.hid hb
    clear hd hps hq ho hpx hb
    by_cases hkn : k < na
    rotate_left
    · obtain rfl : k = na := by omega
      have hps5 : psM d = psM ad := by
        rw [Hps.out, List.take_of_length_le]
        unfold psM
        rw [List.length_map, ← Hna.out]; exact Nat.le_refl _
      have hobx := Ho.out
      have Hres := Lib.hid (set5 hobx (.bool wh) (.int .i64 s) (.slice la nl lc) (.slice xa k xc) (.slice da nd dc))
      have HBf := Lib.hid (set5_below Hb.out (show w.heap.size ≤ ob by have := Hob.out; omega) (.bool wh) (.int .i64 s) (.slice la nl lc) (.slice xa k xc) (.slice da nd dc))
      have hpx5 : OwnPx wo w.heap.size (.slice xa k xc) d := by have h9 := Hpx.out; rw [← Hd.out] at h9; exact h9
      have HXf := Lib.hid (hpx5.set5 hobx (.bool wh) (.int .i64 s) (.slice la nl lc) (.slice xa k xc) (.slice da nd dc))
      have t0 := frozen_blkR hobx 0
      have t1 := frozen_blkR hobx 1
      have t2 := frozen_blkR hobx 2
      have t3 := frozen_blkR hobx 3
      have t4 := frozen_blkR hobx 4
      have y0 : wo.cell? ⟨ob, 0, none⟩ = some (.bool false) := by rw [cell_blkR hobx]; rfl
      have y1 : wo.cell? ⟨ob, 1, none⟩ = some (.int .i64 0) := by rw [cell_blkR hobx]; rfl
      have y2 : wo.cell? ⟨ob, 2, none⟩ = some (.slice none 0 0) := by rw [cell_blkR hobx]; rfl
      have y3 : wo.cell? ⟨ob, 3, none⟩ = some (.slice none 0 0) := by rw [cell_blkR hobx]; rfl
      have y4 : wo.cell? ⟨ob, 4, none⟩ = some (.slice none 0 0) := by rw [cell_blkR hobx]; rfl
      have r0 : wo.cell? ⟨rr, 0, none⟩ = some (.bool wh) := by rw [cell_blkR Hq.out]; rfl
      have r1 : wo.cell? ⟨rr, 1, none⟩ = some (.int .i64 s) := by rw [cell_blkR Hq.out]; rfl
      have r2 : wo.cell? ⟨rr, 2, none⟩ = some (.slice la nl lc) := by rw [cell_blkR Hq.out]; rfl
      have r3 : wo.cell? ⟨rr, 3, none⟩ = some (.slice xa k xc) := by rw [cell_blkR Hq.out]; rfl
      have r4 : wo.cell? ⟨rr, 4, none⟩ = some (.slice da nd dc) := by rw [cell_blkR Hq.out]; rfl
      have Hps5 := Lib.hid hps5
      clear hobx hps5 hpx5
      go_wp2_with fail
      refine bodyPost_ret (v := .agg #[.bool wh, .int .i64 s, .slice la nl lc, .slice xa k xc, .slice da nd dc]) ?_ rfl ⟨.slice xa k xc, d, rfl, Hps5.out, HXf.out, HBf.out⟩
      have hres := Hres.out
      have z0 := cell_blkR hres 0
      have z1 := cell_blkR hres 1
      have z2 := cell_blkR hres 2
      have z3 := cell_blkR hres 3
      have z4 := cell_blkR hres 4
      simp only [List.getElem?_toArray, List.getElem?_cons_zero, List.getElem?_cons_succ] at z0 z1 z2 z3 z4
      generalize (((((wo.setCell ⟨ob, 0, none⟩ (.bool wh)).setCell ⟨ob, 1, none⟩ (.int .i64 s)).setCell ⟨ob, 2, none⟩ (.slice la nl lc)).setCell ⟨ob, 3, none⟩ (.slice xa k xc)).setCell ⟨ob, 4, none⟩ (.slice da nd dc)) = F at *
      simp [results, Try.results11, go_sem, z0, z1, z2, z3, z4]
    obtain ⟨be, off, rfl, hcell⟩ := Hax.out (by omega)
    obtain ⟨⟨lv, ⟨⟨mz, mn, ka, kb, refs⟩, vr⟩⟩, hxk⟩ : ∃ x, ad[k]? = some x := ⟨_, List.getElem?_eq_getElem (by rw [← Hna.out]; exact hkn)⟩
    have hrr := HAr.out _ (List.mem_of_getElem? hxk)
    have hrl := HR.out _ (List.mem_of_getElem? hxk)
    dsimp only at hrr hrl
    obtain ⟨ra, rcp, rfl, -, -, -⟩ := id hrr
    obtain ⟨rn, hrn⟩ : ∃ q, q = refs.length := ⟨_, rfl⟩
    have Hrn := Lib.hid hrn
    have hcx := fun j y hj => (Hb.out.cell (block_lt_of_cell (hcell k _ hxk j y hj))).trans (hcell k _ hxk j y hj)
    have c0 := hcx 0 _ rfl
    have c1 := hcx 1 _ rfl
    have c2 := hcx 2 _ rfl
    have c3 := hcx 3 _ rfl
    have c4 := hcx 4 _ rfl
    have c5 := hcx 5 _ rfl
    have c6 := hcx 6 _ rfl
    have c7 := hcx 7 _ rfl
    have c8 := hcx 8 _ rfl
    have c9 := hcx 9 _ rfl
    rw [Nat.add_zero] at c0
    rw [← hrn] at c9 hrr hrl
    have Hrr := Lib.hid hrr
    have Hrl := Lib.hid hrl
    have hps1 : (psM ad).take (k + 1) = (psM ad).take k ++ [(lv, (⟨mz, mn, ka, kb, refs⟩ : Mt))] := by
      have h1 : (psM ad)[k]? = some (lv, (⟨mz, mn, ka, kb, refs⟩ : Mt)) := by unfold psM; rw [List.getElem?_map, hxk]; rfl
      obtain ⟨h2, h3⟩ := List.getElem?_eq_some_iff.1 h1
      rw [List.take_succ_eq_append_getElem h2, h3]
    have Hps1 := Lib.hid hps1
    have hA : Below wo.heap.size wo (wo.alloc (.cells #[.int .i64 lv, .int .i64 mz, .int .i64 mn, .string ka.u, .int .i64 ka.s, .int .i64 ka.k, .string kb.u, .int .i64 kb.s, .int .i64 kb.k, .slice ra rn rcp] 80)) := (Below.refl _ _).alloc (Nat.le_refl _) _
    have HP := Lib.hid (blk_of_alloc wo (.cells #[.int .i64 lv, .int .i64 mz, .int .i64 mn, .string ka.u, .int .i64 ka.s, .int .i64 ka.k, .string kb.u, .int .i64 kb.s, .int .i64 kb.k, .slice ra rn rcp] 80))
    have HBo := Lib.hid hA
    obtain ⟨pb, hpb⟩ : ∃ q, q = wo.heap.size := ⟨_, rfl⟩
    have Hpb := Lib.hid hpb
    rw [← hpb] at HP
    clear hcell hxk hrr hrl hrn hcx hps1 hA hpb
    go_upto_region 5 with fail
    rw [← Hpb.out]
    generalize wo.alloc (.cells #[.int .i64 lv, .int .i64 mz, .int .i64 mn, .string ka.u, .int .i64 ka.s, .int .i64 ka.k, .string kb.u, .int .i64 kb.s, .int .i64 kb.k, .slice ra rn rcp] 80) = W at *
    clear c0 c1 c2 c3 c4 c5 c6 c7 c8 c9
    have p0 : W.cell? ⟨pb, 0, none⟩ = some (.int .i64 lv) := by rw [cell_blkR HP.out]; rfl
    have p1 : W.cell? ⟨pb, 1, none⟩ = some (.int .i64 mz) := by rw [cell_blkR HP.out]; rfl
    have p2 : W.cell? ⟨pb, 2, none⟩ = some (.int .i64 mn) := by rw [cell_blkR HP.out]; rfl
    have p3 : W.cell? ⟨pb, 3, none⟩ = some (.string ka.u) := by rw [cell_blkR HP.out]; rfl
    have p4 : W.cell? ⟨pb, 4, none⟩ = some (.int .i64 ka.s) := by rw [cell_blkR HP.out]; rfl
    have p5 : W.cell? ⟨pb, 5, none⟩ = some (.int .i64 ka.k) := by rw [cell_blkR HP.out]; rfl
    have p6 : W.cell? ⟨pb, 6, none⟩ = some (.string kb.u) := by rw [cell_blkR HP.out]; rfl
    have p7 : W.cell? ⟨pb, 7, none⟩ = some (.int .i64 kb.s) := by rw [cell_blkR HP.out]; rfl
    have p8 : W.cell? ⟨pb, 8, none⟩ = some (.int .i64 kb.k) := by rw [cell_blkR HP.out]; rfl
    have p9 : W.cell? ⟨pb, 9, none⟩ = some (.slice ra rn rcp) := by rw [cell_blkR HP.out]; rfl
    go_cut [6] (fun pv wc => ∃ M, pv = .pointer (some ⟨M, 0, none⟩) ∧ W.heap.size ≤ M ∧ wc.heap[M]? = some (.cells #[.int .i64 mz, .int .i64 mn, .string ka.u, .int .i64 ka.s, .int .i64 ka.k, .string kb.u, .int .i64 kb.s, .int .i64 kb.k, .slice none 0 0] 85 (0, 0)) ∧ Below W.heap.size W wc)
    case first =>
      refine wp_region_held_drew (S := fun V' => Hid (Below W.heap.size W V')) (by kernel_rfl) (Lib.hid ((Below.refl _ _).drew)) (fun hS0 => ?_)
      refine wpAnyH_take (i := 0) (oi := { dst := some 27, op := Op.fieldAddr 80 (Operand.tmp 5) 1, type := 0, pos := "law.go:30", after := #[], guard := none }) (v := ?_) rfl (by kernel_rfl) (by kernel_rfl) (by kernel_rfl) (fun _ _ _ h => h) (Or.inl ⟨by rfl, ?hy1⟩) hS0 ?_
      case hy1 => (intro V hSw; (try dsimp only at hSw); clear hSw; go_simp; try with_reducible rfl)
      try simp only [Act.put, List.setIfInBounds_toArray, List.set_cons_zero, List.set_cons_succ]
      refine wpAnyH_take (i := 1) (oi := { dst := some 28, op := Op.fieldAddr 78 (Operand.tmp 27) 0, type := 0, pos := "law.go:30", after := #[{ on := 0, ground := Ground.data }], guard := none }) (v := ?_) rfl (by kernel_rfl) (by kernel_rfl) (by kernel_rfl) (fun _ _ _ h => h) (Or.inl ⟨by rfl, ?hy2⟩) hS0 ?_
      case hy2 => (intro V hSw; (try dsimp only at hSw); clear hSw; go_simp; try with_reducible rfl)
      try simp only [Act.put, List.setIfInBounds_toArray, List.set_cons_zero, List.set_cons_succ]
      refine wpAnyH_take (i := 2) (oi := { dst := some 29, op := Op.load 3 (Operand.tmp 28), type := 3, pos := "law.go:30", after := #[{ on := 1, ground := Ground.data }], guard := none }) (v := ?_) rfl (by kernel_rfl) (by kernel_rfl) (by kernel_rfl) (fun _ _ _ h => h) (Or.inl ⟨by rfl, ?hy3⟩) hS0 ?_
      case hy3 => (intro V hSw; (try dsimp only at hSw); have q0 := grow_cell hSw.out (block_lt_of_cell p0) p0; have q1 := grow_cell hSw.out (block_lt_of_cell p1) p1; have q2 := grow_cell hSw.out (block_lt_of_cell p2) p2; have q3 := grow_cell hSw.out (block_lt_of_cell p3) p3; have q4 := grow_cell hSw.out (block_lt_of_cell p4) p4; have q5 := grow_cell hSw.out (block_lt_of_cell p5) p5; have q6 := grow_cell hSw.out (block_lt_of_cell p6) p6; have q7 := grow_cell hSw.out (block_lt_of_cell p7) p7; have q8 := grow_cell hSw.out (block_lt_of_cell p8) p8; clear hSw; go_simp; try with_reducible rfl)
      try simp only [Act.put, List.setIfInBounds_toArray, List.set_cons_zero, List.set_cons_succ]
      refine wpAnyH_take (i := 3) (oi := { dst := some 30, op := Op.fieldAddr 80 (Operand.tmp 5) 1, type := 0, pos := "law.go:30", after := #[], guard := none }) (v := ?_) rfl (by kernel_rfl) (by kernel_rfl) (by kernel_rfl) (fun _ _ _ h => h) (Or.inl ⟨by rfl, ?hy4⟩) hS0 ?_
      case hy4 => (intro V hSw; (try dsimp only at hSw); clear hSw; go_simp; try with_reducible rfl)
      try simp only [Act.put, List.setIfInBounds_toArray, List.set_cons_zero, List.set_cons_succ]
      refine wpAnyH_take (i := 4) (oi := { dst := some 31, op := Op.fieldAddr 78 (Operand.tmp 30) 1, type := 0, pos := "law.go:30", after := #[{ on := 3, ground := Ground.data }], guard := none }) (v := ?_) rfl (by kernel_rfl) (by kernel_rfl) (by kernel_rfl) (fun _ _ _ h => h) (Or.inl ⟨by rfl, ?hy5⟩) hS0 ?_
      case hy5 => (intro V hSw; (try dsimp only at hSw); clear hSw; go_simp; try with_reducible rfl)
      try simp only [Act.put, List.setIfInBounds_toArray, List.set_cons_zero, List.set_cons_succ]
      refine wpAnyH_take (i := 5) (oi := { dst := some 32, op := Op.load 3 (Operand.tmp 31), type := 3, pos := "law.go:30", after := #[{ on := 4, ground := Ground.data }], guard := none }) (v := ?_) rfl (by kernel_rfl) (by kernel_rfl) (by kernel_rfl) (fun _ _ _ h => h) (Or.inl ⟨by rfl, ?hy6⟩) hS0 ?_
      case hy6 => (intro V hSw; (try dsimp only at hSw); have q0 := grow_cell hSw.out (block_lt_of_cell p0) p0; have q1 := grow_cell hSw.out (block_lt_of_cell p1) p1; have q2 := grow_cell hSw.out (block_lt_of_cell p2) p2; have q3 := grow_cell hSw.out (block_lt_of_cell p3) p3; have q4 := grow_cell hSw.out (block_lt_of_cell p4) p4; have q5 := grow_cell hSw.out (block_lt_of_cell p5) p5; have q6 := grow_cell hSw.out (block_lt_of_cell p6) p6; have q7 := grow_cell hSw.out (block_lt_of_cell p7) p7; have q8 := grow_cell hSw.out (block_lt_of_cell p8) p8; clear hSw; go_simp; try with_reducible rfl)
      try simp only [Act.put, List.setIfInBounds_toArray, List.set_cons_zero, List.set_cons_succ]
      refine wpAnyH_take (i := 6) (oi := { dst := some 33, op := Op.fieldAddr 80 (Operand.tmp 5) 1, type := 0, pos := "law.go:30", after := #[], guard := none }) (v := ?_) rfl (by kernel_rfl) (by kernel_rfl) (by kernel_rfl) (fun _ _ _ h => h) (Or.inl ⟨by rfl, ?hy7⟩) hS0 ?_
      case hy7 => (intro V hSw; (try dsimp only at hSw); clear hSw; go_simp; try with_reducible rfl)
      try simp only [Act.put, List.setIfInBounds_toArray, List.set_cons_zero, List.set_cons_succ]
      refine wpAnyH_take (i := 7) (oi := { dst := some 34, op := Op.fieldAddr 78 (Operand.tmp 33) 2, type := 0, pos := "law.go:30", after := #[{ on := 6, ground := Ground.data }], guard := none }) (v := ?_) rfl (by kernel_rfl) (by kernel_rfl) (by kernel_rfl) (fun _ _ _ h => h) (Or.inl ⟨by rfl, ?hy8⟩) hS0 ?_
      case hy8 => (intro V hSw; (try dsimp only at hSw); clear hSw; go_simp; try with_reducible rfl)
      try simp only [Act.put, List.setIfInBounds_toArray, List.set_cons_zero, List.set_cons_succ]
      refine wpAnyH_take (i := 8) (oi := { dst := some 35, op := Op.load 75 (Operand.tmp 34), type := 75, pos := "law.go:30", after := #[{ on := 7, ground := Ground.data }], guard := none }) (v := ?_) rfl (by kernel_rfl) (by kernel_rfl) (by kernel_rfl) (fun _ _ _ h => h) (Or.inl ⟨by rfl, ?hy9⟩) hS0 ?_
      case hy9 => (intro V hSw; (try dsimp only at hSw); have q0 := grow_cell hSw.out (block_lt_of_cell p0) p0; have q1 := grow_cell hSw.out (block_lt_of_cell p1) p1; have q2 := grow_cell hSw.out (block_lt_of_cell p2) p2; have q3 := grow_cell hSw.out (block_lt_of_cell p3) p3; have q4 := grow_cell hSw.out (block_lt_of_cell p4) p4; have q5 := grow_cell hSw.out (block_lt_of_cell p5) p5; have q6 := grow_cell hSw.out (block_lt_of_cell p6) p6; have q7 := grow_cell hSw.out (block_lt_of_cell p7) p7; have q8 := grow_cell hSw.out (block_lt_of_cell p8) p8; clear hSw; go_simp; try with_reducible rfl)
      try simp only [Act.put, List.setIfInBounds_toArray, List.set_cons_zero, List.set_cons_succ]
      refine wpAnyH_take (i := 10) (oi := { dst := some 37, op := Op.fieldAddr 80 (Operand.tmp 5) 1, type := 0, pos := "law.go:30", after := #[], guard := none }) (v := ?_) rfl (by kernel_rfl) (by kernel_rfl) (by kernel_rfl) (fun _ _ _ h => h) (Or.inl ⟨by rfl, ?hy10⟩) hS0 ?_
      case hy10 => (intro V hSw; (try dsimp only at hSw); clear hSw; go_simp; try with_reducible rfl)
      try simp only [Act.put, List.setIfInBounds_toArray, List.set_cons_zero, List.set_cons_succ]
      refine wpAnyH_take (i := 11) (oi := { dst := some 38, op := Op.fieldAddr 78 (Operand.tmp 37) 3, type := 0, pos := "law.go:30", after := #[{ on := 10, ground := Ground.data }], guard := none }) (v := ?_) rfl (by kernel_rfl) (by kernel_rfl) (by kernel_rfl) (fun _ _ _ h => h) (Or.inl ⟨by rfl, ?hy11⟩) hS0 ?_
      case hy11 => (intro V hSw; (try dsimp only at hSw); clear hSw; go_simp; try with_reducible rfl)
      try simp only [Act.put, List.setIfInBounds_toArray, List.set_cons_zero, List.set_cons_succ]
      refine wpAnyH_take (i := 12) (oi := { dst := some 39, op := Op.load 75 (Operand.tmp 38), type := 75, pos := "law.go:30", after := #[{ on := 11, ground := Ground.data }], guard := none }) (v := ?_) rfl (by kernel_rfl) (by kernel_rfl) (by kernel_rfl) (fun _ _ _ h => h) (Or.inl ⟨by rfl, ?hy12⟩) hS0 ?_
      case hy12 => (intro V hSw; (try dsimp only at hSw); have q0 := grow_cell hSw.out (block_lt_of_cell p0) p0; have q1 := grow_cell hSw.out (block_lt_of_cell p1) p1; have q2 := grow_cell hSw.out (block_lt_of_cell p2) p2; have q3 := grow_cell hSw.out (block_lt_of_cell p3) p3; have q4 := grow_cell hSw.out (block_lt_of_cell p4) p4; have q5 := grow_cell hSw.out (block_lt_of_cell p5) p5; have q6 := grow_cell hSw.out (block_lt_of_cell p6) p6; have q7 := grow_cell hSw.out (block_lt_of_cell p7) p7; have q8 := grow_cell hSw.out (block_lt_of_cell p8) p8; clear hSw; go_simp; try with_reducible rfl)
      try simp only [Act.put, List.setIfInBounds_toArray, List.set_cons_zero, List.set_cons_succ]
      refine wpAnyH_ready (rs := [9, 15]) (by kernel_rfl) (by simp) (AllReadyH.cons rfl (fun K hK => ?_) (AllReadyH.cons rfl (fun K hK => ?_) AllReadyH.nil))
      · go_simp
        refine (rkey16_any ka _).mono ?_
        rintro e wv13 ⟨rfl, hv13⟩
        have hS13 := Lib.hid (hS0.out.trans (hv13.mono hS0.out.size))
        clear hv13
        refine hK.out _ _ hS13 (fun _ => ?_)
        clear hK K
        try simp only [Act.put, List.setIfInBounds_toArray, List.set_cons_zero, List.set_cons_succ]
        refine wpAnyH_ready (rs := [13, 15]) (by kernel_rfl) (by simp) (AllReadyH.cons rfl (fun K hK => ?_) (AllReadyH.cons rfl (fun K hK => ?_) AllReadyH.nil))
        · go_simp
          refine (rkey16_any kb _).mono ?_
          rintro e wv14 ⟨rfl, hv14⟩
          have hS14 := Lib.hid (hS13.out.trans (hv14.mono hS13.out.size))
          clear hv14
          refine hK.out _ _ hS14 (fun _ => ?_)
          clear hK K
          try simp only [Act.put, List.setIfInBounds_toArray, List.set_cons_zero, List.set_cons_succ]
          refine wpAnyH_take (i := 14) (oi := { dst := some 41, op := Op.build 85 #[(0, Operand.tmp 29), (1, Operand.tmp 32), (2, Operand.tmp 36), (3, Operand.tmp 40)], type := 85, pos := "law.go:30", after := #[{ on := 2, ground := Ground.data }, { on := 5, ground := Ground.data }, { on := 9, ground := Ground.data }, { on := 13, ground := Ground.data }], guard := none }) (v := ?_) rfl (by kernel_rfl) (by kernel_rfl) (by kernel_rfl) (fun _ _ _ h => h) (Or.inl ⟨by rfl, ?hy15⟩) hS14 ?_
          case hy15 => (intro V hSw; (try dsimp only at hSw); clear hSw; go_simp; try with_reducible rfl)
          try simp only [Act.put, List.setIfInBounds_toArray, List.set_cons_zero, List.set_cons_succ]
          refine wpAnyH_ready (rs := [15]) (by kernel_rfl) (by simp) (AllReadyH.cons rfl (fun K hK => ?_) AllReadyH.nil)
          go_simp
          have hA16 : Below wv14.heap.size wv14 (wv14.alloc (.cells #[.int .i64 0, .int .i64 0, .string ⟨#[]⟩, .int .i64 0, .int .i64 0, .string ⟨#[]⟩, .int .i64 0, .int .i64 0, .slice none 0 0] 85)) := (Below.refl _ _).alloc (Nat.le_refl _) _
          have hS16 := Lib.hid (hS14.out.trans (hA16.mono hS14.out.size))
          have hp16 : Hid ((wv14.alloc (.cells #[.int .i64 0, .int .i64 0, .string ⟨#[]⟩, .int .i64 0, .int .i64 0, .string ⟨#[]⟩, .int .i64 0, .int .i64 0, .slice none 0 0] 85)).heap[wv14.heap.size]? = some (.cells #[.int .i64 0, .int .i64 0, .string ⟨#[]⟩, .int .i64 0, .int .i64 0, .string ⟨#[]⟩, .int .i64 0, .int .i64 0, .slice none 0 0] 85 (0, 0))) := Lib.hid (blk_of_alloc wv14 (.cells #[.int .i64 0, .int .i64 0, .string ⟨#[]⟩, .int .i64 0, .int .i64 0, .string ⟨#[]⟩, .int .i64 0, .int .i64 0, .slice none 0 0] 85))
          have hl16 : Hid (W.heap.size ≤ wv14.heap.size) := Lib.hid (hS14.out.size)
          clear hA16
          refine hK.out _ _ hS16 (fun _ => ?_)
          clear hK K
          try simp only [Act.put, List.setIfInBounds_toArray, List.set_cons_zero, List.set_cons_succ]
          refine wpAnyH_ready (rs := [16]) (by kernel_rfl) (by simp) (AllReadyH.cons rfl (fun K hK => ?_) AllReadyH.nil)
          go_simp
          have hA17 : Below wv14.heap.size wv14 (wv14.alloc (.cells #[.int .i64 mz, .int .i64 mn, .string ka.u, .int .i64 ka.s, .int .i64 ka.k, .string kb.u, .int .i64 kb.s, .int .i64 kb.k, .slice none 0 0] 85)) := (Below.refl _ _).alloc (Nat.le_refl _) _
          have hS17 := Lib.hid (hS14.out.trans (hA17.mono hS14.out.size))
          refine hK.out _ _ hS17 (fun _ => ?_)
          clear hK K
          try simp only [Act.put, List.setIfInBounds_toArray, List.set_cons_zero, List.set_cons_succ]
          refine wpAnyH_done (by kernel_rfl) ?_ _
          go_wp2_with fail
          go_meet
          case rel => exact ⟨_, rfl, hS14.out.size, blk_of_alloc wv14 (.cells #[.int .i64 mz, .int .i64 mn, .string ka.u, .int .i64 ka.s, .int .i64 ka.k, .string kb.u, .int .i64 kb.s, .int .i64 kb.k, .slice none 0 0] 85), hS17.out⟩
        · go_simp
          have hA18 : Below wv13.heap.size wv13 (wv13.alloc (.cells #[.int .i64 0, .int .i64 0, .string ⟨#[]⟩, .int .i64 0, .int .i64 0, .string ⟨#[]⟩, .int .i64 0, .int .i64 0, .slice none 0 0] 85)) := (Below.refl _ _).alloc (Nat.le_refl _) _
          have hS18 := Lib.hid (hS13.out.trans (hA18.mono hS13.out.size))
          have hp18 : Hid ((wv13.alloc (.cells #[.int .i64 0, .int .i64 0, .string ⟨#[]⟩, .int .i64 0, .int .i64 0, .string ⟨#[]⟩, .int .i64 0, .int .i64 0, .slice none 0 0] 85)).heap[wv13.heap.size]? = some (.cells #[.int .i64 0, .int .i64 0, .string ⟨#[]⟩, .int .i64 0, .int .i64 0, .string ⟨#[]⟩, .int .i64 0, .int .i64 0, .slice none 0 0] 85 (0, 0))) := Lib.hid (blk_of_alloc wv13 (.cells #[.int .i64 0, .int .i64 0, .string ⟨#[]⟩, .int .i64 0, .int .i64 0, .string ⟨#[]⟩, .int .i64 0, .int .i64 0, .slice none 0 0] 85))
          have hl18 : Hid (W.heap.size ≤ wv13.heap.size) := Lib.hid (hS13.out.size)
          clear hA18
          refine hK.out _ _ hS18 (fun _ => ?_)
          clear hK K
          try simp only [Act.put, List.setIfInBounds_toArray, List.set_cons_zero, List.set_cons_succ]
          refine wpAnyH_ready (rs := [13]) (by kernel_rfl) (by simp) (AllReadyH.cons rfl (fun K hK => ?_) AllReadyH.nil)
          go_simp
          refine (rkey16_any kb _).mono ?_
          rintro e wv19 ⟨rfl, hv19⟩
          have hS19 := Lib.hid (hS18.out.trans (hv19.mono hS18.out.size))
          have hp19 := Lib.hid (blk_bels hv19 hp18.out)
          clear hv19
          refine hK.out _ _ hS19 (fun _ => ?_)
          clear hK K
          try simp only [Act.put, List.setIfInBounds_toArray, List.set_cons_zero, List.set_cons_succ]
          refine wpAnyH_take (i := 14) (oi := { dst := some 41, op := Op.build 85 #[(0, Operand.tmp 29), (1, Operand.tmp 32), (2, Operand.tmp 36), (3, Operand.tmp 40)], type := 85, pos := "law.go:30", after := #[{ on := 2, ground := Ground.data }, { on := 5, ground := Ground.data }, { on := 9, ground := Ground.data }, { on := 13, ground := Ground.data }], guard := none }) (v := ?_) rfl (by kernel_rfl) (by kernel_rfl) (by kernel_rfl) (fun _ _ _ h => h) (Or.inl ⟨by rfl, ?hy20⟩) hS19 ?_
          case hy20 => (intro V hSw; (try dsimp only at hSw); clear hSw; go_simp; try with_reducible rfl)
          try simp only [Act.put, List.setIfInBounds_toArray, List.set_cons_zero, List.set_cons_succ]
          refine wpAnyH_ready (rs := [16]) (by kernel_rfl) (by simp) (AllReadyH.cons rfl (fun K hK => ?_) AllReadyH.nil)
          have hpx21 := hp19.out
          have tf0 := frozen_blkR hpx21 0
          have tf1 := frozen_blkR hpx21 1
          have tf2 := frozen_blkR hpx21 2
          have tf3 := frozen_blkR hpx21 3
          have tf4 := frozen_blkR hpx21 4
          have tf5 := frozen_blkR hpx21 5
          have tf6 := frozen_blkR hpx21 6
          have tf7 := frozen_blkR hpx21 7
          have tf8 := frozen_blkR hpx21 8
          have tc0 : wv19.cell? ⟨wv13.heap.size, 0, none⟩ = some (.int .i64 0) := by rw [cell_blkR hpx21]; rfl
          have tc1 : wv19.cell? ⟨wv13.heap.size, 1, none⟩ = some (.int .i64 0) := by rw [cell_blkR hpx21]; rfl
          have tc2 : wv19.cell? ⟨wv13.heap.size, 2, none⟩ = some (.string ⟨#[]⟩) := by rw [cell_blkR hpx21]; rfl
          have tc3 : wv19.cell? ⟨wv13.heap.size, 3, none⟩ = some (.int .i64 0) := by rw [cell_blkR hpx21]; rfl
          have tc4 : wv19.cell? ⟨wv13.heap.size, 4, none⟩ = some (.int .i64 0) := by rw [cell_blkR hpx21]; rfl
          have tc5 : wv19.cell? ⟨wv13.heap.size, 5, none⟩ = some (.string ⟨#[]⟩) := by rw [cell_blkR hpx21]; rfl
          have tc6 : wv19.cell? ⟨wv13.heap.size, 6, none⟩ = some (.int .i64 0) := by rw [cell_blkR hpx21]; rfl
          have tc7 : wv19.cell? ⟨wv13.heap.size, 7, none⟩ = some (.int .i64 0) := by rw [cell_blkR hpx21]; rfl
          have tc8 : wv19.cell? ⟨wv13.heap.size, 8, none⟩ = some (.slice none 0 0) := by rw [cell_blkR hpx21]; rfl
          have Hb21 := Lib.hid (set9g rfl hpx21 (.int .i64 mz) (.int .i64 mn) (.string ka.u) (.int .i64 ka.s) (.int .i64 ka.k) (.string kb.u) (.int .i64 kb.s) (.int .i64 kb.k) (.slice none 0 0))
          have hS21 := Lib.hid (below9 hS19.out hl18.out (.int .i64 mz) (.int .i64 mn) (.string ka.u) (.int .i64 ka.s) (.int .i64 ka.k) (.string kb.u) (.int .i64 kb.s) (.int .i64 kb.k) (.slice none 0 0))
          clear hpx21
          go_simp
          refine hK.out _ _ hS21 (fun _ => ?_)
          clear hK K
          try simp only [Act.put, List.setIfInBounds_toArray, List.set_cons_zero, List.set_cons_succ]
          refine wpAnyH_done (by kernel_rfl) ?_ _
          go_wp2_with fail
          go_meet
          case rel => exact ⟨_, rfl, hl18.out, Hb21.out, hS21.out⟩
      · go_simp
        have hA22 : Below W.drew.heap.size W.drew (W.drew.alloc (.cells #[.int .i64 0, .int .i64 0, .string ⟨#[]⟩, .int .i64 0, .int .i64 0, .string ⟨#[]⟩, .int .i64 0, .int .i64 0, .slice none 0 0] 85)) := (Below.refl _ _).alloc (Nat.le_refl _) _
        have hS22 := Lib.hid (hS0.out.trans (hA22.mono hS0.out.size))
        have hp22 : Hid ((W.drew.alloc (.cells #[.int .i64 0, .int .i64 0, .string ⟨#[]⟩, .int .i64 0, .int .i64 0, .string ⟨#[]⟩, .int .i64 0, .int .i64 0, .slice none 0 0] 85)).heap[W.heap.size]? = some (.cells #[.int .i64 0, .int .i64 0, .string ⟨#[]⟩, .int .i64 0, .int .i64 0, .string ⟨#[]⟩, .int .i64 0, .int .i64 0, .slice none 0 0] 85 (0, 0))) := Lib.hid (blk_of_alloc W.drew (.cells #[.int .i64 0, .int .i64 0, .string ⟨#[]⟩, .int .i64 0, .int .i64 0, .string ⟨#[]⟩, .int .i64 0, .int .i64 0, .slice none 0 0] 85))
        have hl22 : Hid (W.heap.size ≤ W.heap.size) := Lib.hid (hS0.out.size)
        clear hA22
        refine hK.out _ _ hS22 (fun _ => ?_)
        clear hK K
        try simp only [Act.put, List.setIfInBounds_toArray, List.set_cons_zero, List.set_cons_succ]
        refine wpAnyH_ready (rs := [9]) (by kernel_rfl) (by simp) (AllReadyH.cons rfl (fun K hK => ?_) AllReadyH.nil)
        go_simp
        refine (rkey16_any ka _).mono ?_
        rintro e wv23 ⟨rfl, hv23⟩
        have hS23 := Lib.hid (hS22.out.trans (hv23.mono hS22.out.size))
        have hp23 := Lib.hid (blk_bels hv23 hp22.out)
        clear hv23
        refine hK.out _ _ hS23 (fun _ => ?_)
        clear hK K
        try simp only [Act.put, List.setIfInBounds_toArray, List.set_cons_zero, List.set_cons_succ]
        refine wpAnyH_ready (rs := [13]) (by kernel_rfl) (by simp) (AllReadyH.cons rfl (fun K hK => ?_) AllReadyH.nil)
        go_simp
        refine (rkey16_any kb _).mono ?_
        rintro e wv24 ⟨rfl, hv24⟩
        have hS24 := Lib.hid (hS23.out.trans (hv24.mono hS23.out.size))
        have hp24 := Lib.hid (blk_bels hv24 hp23.out)
        clear hv24
        refine hK.out _ _ hS24 (fun _ => ?_)
        clear hK K
        try simp only [Act.put, List.setIfInBounds_toArray, List.set_cons_zero, List.set_cons_succ]
        refine wpAnyH_take (i := 14) (oi := { dst := some 41, op := Op.build 85 #[(0, Operand.tmp 29), (1, Operand.tmp 32), (2, Operand.tmp 36), (3, Operand.tmp 40)], type := 85, pos := "law.go:30", after := #[{ on := 2, ground := Ground.data }, { on := 5, ground := Ground.data }, { on := 9, ground := Ground.data }, { on := 13, ground := Ground.data }], guard := none }) (v := ?_) rfl (by kernel_rfl) (by kernel_rfl) (by kernel_rfl) (fun _ _ _ h => h) (Or.inl ⟨by rfl, ?hy25⟩) hS24 ?_
        case hy25 => (intro V hSw; (try dsimp only at hSw); clear hSw; go_simp; try with_reducible rfl)
        try simp only [Act.put, List.setIfInBounds_toArray, List.set_cons_zero, List.set_cons_succ]
        refine wpAnyH_ready (rs := [16]) (by kernel_rfl) (by simp) (AllReadyH.cons rfl (fun K hK => ?_) AllReadyH.nil)
        have hpx26 := hp24.out
        have tf0 := frozen_blkR hpx26 0
        have tf1 := frozen_blkR hpx26 1
        have tf2 := frozen_blkR hpx26 2
        have tf3 := frozen_blkR hpx26 3
        have tf4 := frozen_blkR hpx26 4
        have tf5 := frozen_blkR hpx26 5
        have tf6 := frozen_blkR hpx26 6
        have tf7 := frozen_blkR hpx26 7
        have tf8 := frozen_blkR hpx26 8
        have tc0 : wv24.cell? ⟨W.heap.size, 0, none⟩ = some (.int .i64 0) := by rw [cell_blkR hpx26]; rfl
        have tc1 : wv24.cell? ⟨W.heap.size, 1, none⟩ = some (.int .i64 0) := by rw [cell_blkR hpx26]; rfl
        have tc2 : wv24.cell? ⟨W.heap.size, 2, none⟩ = some (.string ⟨#[]⟩) := by rw [cell_blkR hpx26]; rfl
        have tc3 : wv24.cell? ⟨W.heap.size, 3, none⟩ = some (.int .i64 0) := by rw [cell_blkR hpx26]; rfl
        have tc4 : wv24.cell? ⟨W.heap.size, 4, none⟩ = some (.int .i64 0) := by rw [cell_blkR hpx26]; rfl
        have tc5 : wv24.cell? ⟨W.heap.size, 5, none⟩ = some (.string ⟨#[]⟩) := by rw [cell_blkR hpx26]; rfl
        have tc6 : wv24.cell? ⟨W.heap.size, 6, none⟩ = some (.int .i64 0) := by rw [cell_blkR hpx26]; rfl
        have tc7 : wv24.cell? ⟨W.heap.size, 7, none⟩ = some (.int .i64 0) := by rw [cell_blkR hpx26]; rfl
        have tc8 : wv24.cell? ⟨W.heap.size, 8, none⟩ = some (.slice none 0 0) := by rw [cell_blkR hpx26]; rfl
        have Hb26 := Lib.hid (set9g rfl hpx26 (.int .i64 mz) (.int .i64 mn) (.string ka.u) (.int .i64 ka.s) (.int .i64 ka.k) (.string kb.u) (.int .i64 kb.s) (.int .i64 kb.k) (.slice none 0 0))
        have hS26 := Lib.hid (below9 hS24.out hl22.out (.int .i64 mz) (.int .i64 mn) (.string ka.u) (.int .i64 ka.s) (.int .i64 ka.k) (.string kb.u) (.int .i64 kb.s) (.int .i64 kb.k) (.slice none 0 0))
        clear hpx26
        go_simp
        refine hK.out _ _ hS26 (fun _ => ?_)
        clear hK K
        try simp only [Act.put, List.setIfInBounds_toArray, List.set_cons_zero, List.set_cons_succ]
        refine wpAnyH_done (by kernel_rfl) ?_ _
        go_wp2_with fail
        go_meet
        case rel => exact ⟨_, rfl, hl22.out, Hb26.out, hS26.out⟩
    case rest =>
      obtain ⟨M, rfl, hM, hmb, hbc⟩ := hcut
      have hwW : wo.heap.size ≤ W.heap.size := HBo.out.size
      have HM : Hid (W.heap.size ≤ M ∧ M ≠ pb ∧ wo.heap.size ≤ M) := Lib.hid (by have := blk_lt HP.out; omega)
      have HP1 := Lib.hid (blk_bels hbc HP.out)
      have HM1 := Lib.hid hmb
      have HB1 := Lib.hid (HBo.out.trans (hbc.mono hwW))
      have HW1 := Lib.hid hbc.size
      have HwW := Lib.hid hwW
      have q9 : wc.cell? ⟨pb, 9, none⟩ = some (.slice ra rn rcp) := by rw [cell_blkR HP1.out]; rfl
      have Hrx := Lib.hid Hrr.out.at.2.2.2
      clear hM hmb hbc hwW p0 p1 p2 p3 p4 p5 p6 p7 p8 p9
      have hrlx := Hrl.out
      go_wp2_with fail
      go_loopw [46] (fun iv wr => ∃ (j : Nat) (rv : Value), j ≤ rn ∧ iv = .int .i64 j ∧ wr.heap[M]? = some (.cells #[.int .i64 mz, .int .i64 mn, .string ka.u, .int .i64 ka.s, .int .i64 ka.k, .string kb.u, .int .i64 kb.s, .int .i64 kb.k, rv] 85 (0, 0)) ∧ wr.heap[pb]? = some (.cells #[.int .i64 lv, .int .i64 mz, .int .i64 mn, .string ka.u, .int .i64 ka.s, .int .i64 ka.k, .string kb.u, .int .i64 kb.s, .int .i64 kb.k, .slice ra rn rcp] 80 (0, 0)) ∧ OwnRx wr W.heap.size rv (refs.take j) ∧ Below wo.heap.size wo wr ∧ W.heap.size ≤ wr.heap.size) (fun i _ => rn - (intOf i).toNat)
      case atStart => exact ⟨0, .slice none 0 0, Nat.zero_le _, rfl, HM1.out, HP1.out, World.ownsRow_nil _ _ _ _, HB1.out, HW1.out⟩
      case round =>
        clear HM1 HP1 HB1 HW1 q9
        obtain ⟨wi, rfl⟩ : ∃ wi : World, wi = wr := ⟨_, rfl⟩
        obtain ⟨j, rv, hj, rfl, hm, hp, hor, hb, hws⟩ := hrel
        obtain ⟨tn, htn⟩ : ∃ q, q = (refs.take j).length := ⟨_, rfl⟩
        have hor2 := hor
        rw [OwnRx, ← htn] at hor2
        obtain ⟨va, vc, rfl⟩ := own_slice hor2
        have Htn : Hid (tn ≤ j) := Lib.hid (by rw [htn]; exact List.length_take_le _ _)
        have Hm := Lib.hid hm
        have Hp := Lib.hid hp
        have Hor := Lib.hid hor
        have Hbi := Lib.hid hb
        have Hws := Lib.hid hws
        have HtnL := Lib.hid htn
        clear hm hp hor hor2 hb hws htn
        by_cases hjn : j < rn
        rotate_left
        · obtain rfl : j = rn := by omega
          have hall : refs.take j = refs := List.take_of_length_le (by rw [← Hrn.out]; exact Nat.le_refl _)
          have hor5 : OwnRx wi W.heap.size (.slice va tn vc) refs := by have h9 := Hor.out; rw [hall] at h9; exact h9
          have hq5 := blk_bels Hbi.out Hq.out
          have ho5 := blk_bels Hbi.out Ho.out
          have hpx5 := Hpx.out.below Hbi.out
          have hwb : Below w.heap.size w wi := Hb.out.trans (Hbi.out.mono Hb.out.size)
          obtain ⟨a', n', c', w2, hrun, ho2, hg2⟩ := push_px wi w.heap.size _ d (lv, ((⟨mz, mn, ka, kb, refs⟩ : Mt), .slice va tn vc)) ⟨_, _, _, rfl⟩ hpx5.1 (by have := Hd.out; omega) hwb.size
          rw [← Hd.out] at hrun
          dsimp only at hrun hg2
          have hal : Below wi.heap.size wi (wi.alloc (.cells #[.int .i64 lv, .int .i64 mz, .int .i64 mn, .string ka.u, .int .i64 ka.s, .int .i64 ka.k, .string kb.u, .int .i64 kb.s, .int .i64 kb.k, .slice va tn vc] 90)) := (Below.refl _ _).alloc (Nat.le_refl _) _
          have hq6 := grow_at hpx5.1 hal hg2 hq5 (by decide)
          have ho6 := grow_at hpx5.1 hal hg2 ho5 (by decide)
          have hb6 : Below w.heap.size w w2 := hwb.trans ((hal.mono hwb.size).grown hg2 (Nat.le_trans hwb.size hal.size) (fun g e => (hpx5.1.lt g e).1))
          have hr6 : ∀ p ∈ d ++ [(lv, ((⟨mz, mn, ka, kb, refs⟩ : Mt), Value.slice va tn vc))], OwnRx w2 w.heap.size p.2.2 p.2.1.refs := fun p hp => by
            rcases List.mem_append.1 hp with hp | hp
            · exact grow_row hpx5.1 hal hg2 (hpx5.2 p hp) (by decide)
            · obtain rfl := List.mem_singleton.1 hp
              exact grow_row hpx5.1 hal hg2 (own_mono hor5 (Nat.le_trans Hb.out.size HwW.out)) (by decide)
          have tf := frozen_blkR hq6 3
          have tc : w2.cell? ⟨rr, 3, none⟩ = some (.slice xa k xc) := by rw [cell_blkR hq6]; rfl
          have HQ7 : Hid ((w2.setCell ⟨rr, 3, none⟩ (.slice a' n' c')).heap[rr]? = some (.cells #[.bool wh, .int .i64 s, .slice la nl lc, (.slice a' n' c'), .slice da nd dc] 32 (0, 0))) := Lib.hid (by rw [blk_setCellR hq6]; rfl)
          have HO7 := Lib.hid ((Below.heap_setCell w2 ⟨rr, 3, none⟩ (.slice a' n' c') ob (by have := Hob.out; show ob ≠ rr; omega)).trans ho6)
          have HB7 := Lib.hid (Below.setCell (p := ⟨rr, 3, none⟩) hb6 (show w.heap.size ≤ rr by have := Hob.out; omega) (.slice a' n' c'))
          have HX7 : Hid (OwnPx (w2.setCell ⟨rr, 3, none⟩ (.slice a' n' c')) w.heap.size (.slice a' n' c') (d ++ [(lv, ((⟨mz, mn, ka, kb, refs⟩ : Mt), Value.slice va tn vc))])) := Lib.hid ⟨own_struct ho2 hq6 (by decide) 3 _, fun p hp => own_struct (hr6 p hp) hq6 (by decide) 3 _⟩
          have Hps7 : Hid (psM (d ++ [(lv, ((⟨mz, mn, ka, kb, refs⟩ : Mt), Value.slice va tn vc))]) = (psM ad).take (k + 1)) := Lib.hid (by rw [Hps1.out, ← Hps.out]; unfold psM; rw [List.map_append]; rfl)
          have r3 : wi.cell? ⟨rr, 3, none⟩ = some (.slice xa k xc) := by rw [cell_blkR hq5]; rfl
          have l0 : wi.cell? ⟨pb, 0, none⟩ = some (.int .i64 lv) := by rw [cell_blkR Hp.out]; rfl
          have m0 : wi.cell? ⟨M, 0, none⟩ = some (.int .i64 mz) := by rw [cell_blkR Hm.out]; rfl
          have m1 : wi.cell? ⟨M, 1, none⟩ = some (.int .i64 mn) := by rw [cell_blkR Hm.out]; rfl
          have m2 : wi.cell? ⟨M, 2, none⟩ = some (.string ka.u) := by rw [cell_blkR Hm.out]; rfl
          have m3 : wi.cell? ⟨M, 3, none⟩ = some (.int .i64 ka.s) := by rw [cell_blkR Hm.out]; rfl
          have m4 : wi.cell? ⟨M, 4, none⟩ = some (.int .i64 ka.k) := by rw [cell_blkR Hm.out]; rfl
          have m5 : wi.cell? ⟨M, 5, none⟩ = some (.string kb.u) := by rw [cell_blkR Hm.out]; rfl
          have m6 : wi.cell? ⟨M, 6, none⟩ = some (.int .i64 kb.s) := by rw [cell_blkR Hm.out]; rfl
          have m7 : wi.cell? ⟨M, 7, none⟩ = some (.int .i64 kb.k) := by rw [cell_blkR Hm.out]; rfl
          have m8 : wi.cell? ⟨M, 8, none⟩ = some (.slice va tn vc) := by rw [cell_blkR Hm.out]; rfl
          clear hall hor5 hq5 ho5 hpx5 hwb ho2 hg2 hal hq6 ho6 hb6 hr6
          go_wp2_with (at_builtin; first | (refine wpList_val rfl _ _ (run_append_op (.tmp 62) (.tmp 67) 30 30 rfl rfl rfl hrun) ?_) | (refine wpList_val rfl _ _ (run_append_op (.tmp 62) (.tmp 67) 30 30 rfl (by simp) (by simp) hrun) ?_))
          go_roundw
          case rel => exact ⟨k + 1, _, .slice a' n' c', by omega, by go_num, by rw [List.length_append, ← Hd.out, List.length_singleton], Hps7.out, HQ7.out, HO7.out, HX7.out, HB7.out⟩
          case measure => simp [intOf]; omega
        obtain ⟨bf, of2, rfl, hcell⟩ := Hrx.out (by omega)
        obtain ⟨⟨x, y⟩, hxj⟩ : ∃ x, refs[j]? = some x := ⟨_, List.getElem?_eq_getElem (by rw [← Hrn.out]; exact hjn)⟩
        have hwq : Below w.heap.size w wi := Hb.out.trans (Hbi.out.mono Hb.out.size)
        have hcx := fun i y hi => (hwq.cell (block_lt_of_cell (hcell j _ hxj i y hi))).trans (hcell j _ hxj i y hi)
        have c0 := hcx 0 _ rfl
        have c1 := hcx 1 _ rfl
        rw [Nat.add_zero] at c0
        have htk : refs.take (j + 1) = refs.take j ++ [(x, y)] := by
          obtain ⟨h2, h3⟩ := List.getElem?_eq_some_iff.1 hxj
          rw [List.take_succ_eq_append_getElem h2, h3]
        have Htk := Lib.hid htk
        have hA : Below wi.heap.size wi (wi.alloc (.cells #[.int .i64 x, .int .i64 y] 87)) := (Below.refl _ _).alloc (Nat.le_refl _) _
        have HX := Lib.hid (blk_of_alloc wi (.cells #[.int .i64 x, .int .i64 y] 87))
        have Hm2 := Lib.hid (blk_bels hA Hm.out)
        have Hp2 := Lib.hid (blk_bels hA Hp.out)
        have Hor2 := Lib.hid (own_below Hor.out hA)
        have Hbi2 := Lib.hid (Hbi.out.trans (hA.mono Hbi.out.size))
        have Hws2 := Lib.hid (Nat.le_trans Hws.out hA.size)
        obtain ⟨xb, hxb⟩ : ∃ q, q = wi.heap.size := ⟨_, rfl⟩
        have Hxb := Lib.hid hxb
        rw [← hxb] at HX
        clear hcell hxj hwq hcx htk hA hxb Hm Hp Hor Hbi Hws
        go_upto_region 9 with fail
        rw [← Hxb.out]
        generalize wi.alloc (.cells #[.int .i64 x, .int .i64 y] 87) = X at *
        clear Hxb c0 c1
        have x0 : X.cell? ⟨xb, 0, none⟩ = some (.int .i64 x) := by rw [cell_blkR HX.out]; rfl
        have x1 : X.cell? ⟨xb, 1, none⟩ = some (.int .i64 y) := by rw [cell_blkR HX.out]; rfl
        have m8 : X.cell? ⟨M, 8, none⟩ = some (.slice va tn vc) := by rw [cell_blkR Hm2.out]; rfl
        obtain ⟨a', n', c', w2, hrun, ho2, hg2⟩ := push_rx X W.heap.size _ (refs.take j) (x, y) Hor2.out (by rw [← HtnL.out]; have := Htn.out; have := Hrl.out; omega) Hws2.out
        dsimp only at hrun hg2
        have hal : Below X.heap.size X (X.alloc (.cells #[.int .i64 x, .int .i64 y] 88)) := (Below.refl _ _).alloc (Nat.le_refl _) _
        have hm6 := grow_at Hor2.out hal hg2 Hm2.out (by decide)
        have hp6 := grow_at Hor2.out hal hg2 Hp2.out (by decide)
        have hb6 : Below wo.heap.size wo w2 := Hbi2.out.trans ((hal.mono Hbi2.out.size).grown hg2 (Nat.le_trans Hbi2.out.size hal.size) (fun g e => Nat.le_trans HwW.out (Hor2.out.lt g e).1))
        have tf := frozen_blkR hm6 8
        have tc : w2.cell? ⟨M, 8, none⟩ = some (.slice va tn vc) := by rw [cell_blkR hm6]; rfl
        have HM7 : Hid ((w2.setCell ⟨M, 8, none⟩ (.slice a' n' c')).heap[M]? = some (.cells #[.int .i64 mz, .int .i64 mn, .string ka.u, .int .i64 ka.s, .int .i64 ka.k, .string kb.u, .int .i64 kb.s, .int .i64 kb.k, (.slice a' n' c')] 85 (0, 0))) := Lib.hid (by rw [blk_setCellR hm6]; rfl)
        have HP7 := Lib.hid ((Below.heap_setCell w2 ⟨M, 8, none⟩ (.slice a' n' c') pb (by have := HM.out.2.1; show pb ≠ M; omega)).trans hp6)
        have HB7 := Lib.hid (Below.setCell (p := ⟨M, 8, none⟩) hb6 (show wo.heap.size ≤ M from HM.out.2.2) (.slice a' n' c'))
        have HO7 : Hid (OwnRx (w2.setCell ⟨M, 8, none⟩ (.slice a' n' c')) W.heap.size (.slice a' n' c') (refs.take (j + 1))) := Lib.hid (by rw [Htk.out]; exact own_struct ho2 hm6 (by decide) 8 _)
        have HS7 : Hid (W.heap.size ≤ (w2.setCell ⟨M, 8, none⟩ (.slice a' n' c')).heap.size) := Lib.hid (Nat.le_trans Hws2.out (Nat.le_trans hal.size (Nat.le_trans hg2.size (grown_setCellR w2 M 8 (.slice a' n' c')).size)))
        clear ho2 hg2 hal hm6 hp6 hb6
        go_wp2_with (at_builtin; first | (refine wpList_val rfl _ _ (run_append_op (.tmp 51) (.tmp 57) 83 83 rfl rfl rfl hrun) ?_) | (refine wpList_val rfl _ _ (run_append_op (.tmp 51) (.tmp 57) 83 83 rfl (by simp) (by simp) hrun) ?_))
        go_roundw
        case rel => exact ⟨j + 1, .slice a' n' c', by omega, by go_num, HM7.out, HP7.out, HO7.out, HB7.out, HS7.out⟩
        case measure => simp [intOf]; omega
end Go.Proofs.Ythjjelomlgmllaa.Tithe
namespace Go.Proofs.Ythjjelomlgmllaa.Tithe
open Go.RowKit Go.Sort Go.Shelf
set_option linter.unusedVariables false
set_option linter.unusedSimpArgs false
set_option maxRecDepth 100000
attribute [local go_sem] Oper.semAt_some
set_option maxHeartbeats 1600000 in
theorem zones16_any (v : Value) (l : List Int) (w : World) (h : IsZs w v l) :
    Calls Try.prog 34 #[v] w fun e w' => e = .returned (.bool (zsOk l)) ∧ w' = w := by
  obtain ⟨a, c, rfl, -, -, -⟩ := id h
  obtain ⟨-, hc, hm, hx⟩ := h.at
  have Hx := Lib.hid hx
  clear h hx
  obtain ⟨n, hn⟩ : ∃ n, n = l.length := ⟨_, rfl⟩
  rw [← hn] at Hx hc ⊢
  have Hn := Lib.hid hn
  obtain ⟨q, hq⟩ : ∃ q, q = zsOk l := ⟨_, rfl⟩
  have Hq := Lib.hid hq
  rw [← hq]
  clear hn hq
  go_enter Try.func34, Try.ntmps34
  go_wp2
  go_loopw [3] (fun i wr => ∃ k : Nat, k ≤ n ∧ i = .int .i64 k ∧ (∀ (j : Nat) (y : Int), j < k → l[j]? = some y → zoneOk y = true) ∧ wr = w) (fun i _ => n - (intOf i).toNat)
  case atStart => exact ⟨0, Nat.zero_le _, rfl, by omega, rfl⟩
  case round =>
    obtain ⟨k, hk, rfl, hr, rfl⟩ := hrel
    have Hr := Lib.hid hr
    clear hr
    by_cases hkn : k < n
    · obtain ⟨b, off, rfl, hcell⟩ := Hx.out (by omega)
      obtain ⟨x, hxk⟩ : ∃ x, l[k]? = some x := ⟨_, List.getElem?_eq_getElem (by rw [← Hn.out]; exact hkn)⟩
      have d0 := IsZs.row hcell hxk
      have Hxk := Lib.hid hxk
      have hlt : (k : Int) < (n : Int) := by omega
      clear hxk hcell
      by_cases h1 : x < 0
      · have hd1 : decide (x < 0) = true := decide_eq_true h1
        have Hf : Hid (q = false) := Lib.hid (by
          rw [Hq.out]; unfold zsOk
          rw [show l.all zoneOk = false from List.all_eq_false.2 ⟨x, List.mem_of_getElem? Hxk.out, by unfold zoneOk; simp; omega⟩, Bool.and_false])
        go_wp2_with fail
        go_ret
        exact ⟨by rw [Hf.out]; rfl, rfl⟩
      · have hd1 : decide (x < 0) = false := decide_eq_false h1
        by_cases h2 : 63 < x
        · have hd2 : decide (x > 63) = true := decide_eq_true h2
          have hd3 : decide (63 < x) = true := decide_eq_true h2
          have Hf : Hid (q = false) := Lib.hid (by
            rw [Hq.out]; unfold zsOk
            rw [show l.all zoneOk = false from List.all_eq_false.2 ⟨x, List.mem_of_getElem? Hxk.out, by unfold zoneOk; simp; omega⟩, Bool.and_false])
          go_wp2_with fail
          go_ret
          exact ⟨by rw [Hf.out]; rfl, rfl⟩
        · have hd2 : decide (x > 63) = false := decide_eq_false h2
          have hd3 : decide (63 < x) = false := decide_eq_false h2
          have Hok : Hid (zoneOk x = true) := Lib.hid (by unfold zoneOk; simp; omega)
          go_wp2_with fail
          go_roundw
          case rel =>
            refine ⟨k + 1, by omega, by go_num, fun j y hj hy => ?_, by trivial⟩
            by_cases e : j = k
            · subst e
              have := hy.symm.trans Hxk.out
              injection this with this
              rw [this]; exact Hok.out
            · exact Hr.out j y (by omega) hy
          case measure => simp [intOf]; omega
    · obtain rfl : k = n := by omega
      have hall : l.all zoneOk = true := by
        rw [List.all_eq_true]
        intro x hx
        obtain ⟨j, hj, rfl⟩ := List.getElem_of_mem hx
        exact Hr.out j _ (by rw [Hn.out]; exact hj) (List.getElem?_eq_getElem hj)
      have Hf : Hid (q = decide ((k : Int) ≤ 64)) := Lib.hid (by
        rw [Hq.out]; unfold zsOk; rw [hall, Bool.and_true, ← Hn.out]
        by_cases z : k ≤ 64
        · rw [decide_eq_true z, decide_eq_true (show (k : Int) ≤ 64 by omega)]
        · rw [decide_eq_false z, decide_eq_false (show ¬ (k : Int) ≤ 64 by omega)])
      clear hall
      go_wp2_with fail
      go_ret
      exact ⟨by rw [Hf.out]; rfl, rfl⟩
set_option maxHeartbeats 1600000 in
theorem list16_any (v : Value) (l : List Int) (w : World) (h : IsZs w v l) (hz : ∀ z ∈ l, 0 ≤ z ∧ z < 64) (hl : l.length ≤ 64) :
    Calls Try.prog 38 #[v] w fun e w' => ∃ v', e = .returned v' ∧ OwnBs w' w.heap.size v' (encZs l) ∧ Below w.heap.size w w' := by
  obtain ⟨a, c, rfl, -, -, -⟩ := id h
  obtain ⟨-, hc, hm, hx⟩ := h.at
  have Hx := Lib.hid hx
  clear h hx
  obtain ⟨n, hn⟩ : ∃ n, n = l.length := ⟨_, rfl⟩
  have HE : Hid (encZs l = encN n ++ l.flatMap fun z => encN z.toNat) := Lib.hid (by unfold encZs; rw [hn])
  generalize encZs l = E at HE ⊢
  rw [← hn] at Hx hc hl ⊢
  have Hn := Lib.hid hn
  have Hz := Lib.hid hz
  have Hnum := Lib.hid (rnum_any n w (by omega))
  clear hn hz
  go_enter Try.func38, Try.ntmps38
  go_wp2_with fail
  refine Hnum.out.mono ?_
  rintro e w1 ⟨v1, rfl, ho1, hb1⟩
  have Ho1 := Lib.hid ho1
  have Hb1 := Lib.hid hb1
  clear ho1 hb1 Hnum
  go_wp2_with fail
  go_loopw [3, 4] (fun ov i wr => ∃ k : Nat, k ≤ n ∧ i = .int .i64 k ∧ OwnBs wr w.heap.size ov (encN n ++ (l.take k).flatMap fun z => encN z.toNat) ∧ Below w.heap.size w wr) (fun _ i _ => n - (intOf i).toNat)
  case atStart => exact ⟨0, Nat.zero_le _, rfl, by rw [List.take_zero, List.flatMap_nil, List.append_nil]; exact Ho1.out, Hb1.out⟩
  case round =>
    clear Ho1 Hb1
    obtain ⟨wo, rfl⟩ : ∃ wo : World, wo = wr := ⟨_, rfl⟩
    obtain ⟨k, hk, rfl, ho, hb⟩ := hrel
    obtain ⟨OL, hOL⟩ : ∃ q, q = encN n ++ (l.take k).flatMap fun z : Int => encN z.toNat := ⟨_, rfl⟩
    rw [← hOL] at ho
    have HOL := Lib.hid hOL
    have Ho := Lib.hid ho
    have Hb := Lib.hid hb
    obtain ⟨on, hon⟩ : ∃ q, q = OL.length := ⟨_, rfl⟩
    have ho2 := ho
    rw [OwnBs, ← hon] at ho2
    obtain ⟨oa, oc, rfl⟩ := own_slice ho2
    have hol : OL.length ≤ 700 := by
      rw [hOL, List.length_append]
      have h1 := encN_le n
      have h2 := flatMap_le (fun z : Int => encN z.toNat) 10 (fun z => encN_le _) (l.take k)
      have h3 : (l.take k).length ≤ k := List.length_take_le _ _
      omega
    have Hol := Lib.hid hol
    clear ho ho2 hb hOL hon hol
    by_cases hkn : k < n
    · obtain ⟨b, off, rfl, hcell⟩ := Hx.out (by omega)
      obtain ⟨x, hxk⟩ : ∃ x, l[k]? = some x := ⟨_, List.getElem?_eq_getElem (by rw [← Hn.out]; exact hkn)⟩
      have hxx := Hz.out x (List.mem_of_getElem? hxk)
      obtain ⟨z, rfl⟩ : ∃ q : Nat, x = (q : Int) := ⟨x.toNat, by omega⟩
      have c0 := IsZs.row hcell hxk
      have d0 := (Hb.out.cell (block_lt_of_cell c0)).trans c0
      have hlt : (k : Int) < (n : Int) := by omega
      have Htk := Lib.hid (take_flat (fun z : Int => encN z.toNat) hxk)
      have Hnum := Lib.hid (rnum_any z wo (by omega))
      clear hxk hcell c0
      go_wp2_with fail
      refine Hnum.out.mono ?_
      rintro e w2 ⟨v2, rfl, ho2, hb2⟩
      obtain ⟨en, hen⟩ : ∃ q, q = (encN z).length := ⟨_, rfl⟩
      have ho3 := ho2
      rw [OwnBs, ← hen] at ho3
      obtain ⟨ea, ec, rfl⟩ := own_slice ho3
      obtain ⟨v3, w3, hrun, ho4, hg4, -⟩ := app_bs w2 w.heap.size _ _ OL (encN z) (own_below Ho.out hb2) (isSl_own byteC_len ho2) (by have := Hol.out; have := encN_le z; omega) (Nat.le_trans Hb.out.size hb2.size)
      have hbel : Below w.heap.size w w3 := Hb.out.trans ((hb2.mono Hb.out.size).grown hg4 (Nat.le_trans Hb.out.size hb2.size) (fun g e => ((own_below Ho.out hb2).lt g e).1))
      have Hb3 := Lib.hid hbel
      have Ho4 : Hid (OwnBs w3 w.heap.size v3 (encN n ++ (l.take (k + 1)).flatMap fun z => encN z.toNat)) := Lib.hid (by
        rw [show (l.take (k + 1)).flatMap (fun z : Int => encN z.toNat) = (l.take k).flatMap (fun z : Int => encN z.toNat) ++ encN z from Htk.out, ← List.append_assoc, ← HOL.out]
        exact ho4)
      obtain ⟨n3, hn3⟩ : ∃ q, q = (OL ++ encN z).length := ⟨_, rfl⟩
      rw [← hn3] at ho4
      obtain ⟨xa, xc, rfl⟩ := own_slice ho4
      clear ho2 ho3 hb2 hen ho4 hg4 hbel hn3 Hnum
      go_wp2_with (at_builtin; first | (refine wpList_val rfl _ _ (run_append_op (.tmp 14) (.tmp 19) 34 34 rfl rfl rfl hrun) ?_) | (refine wpList_val rfl _ _ (run_append_op (.tmp 14) (.tmp 19) 34 34 rfl (by simp) (by simp) hrun) ?_))
      go_roundw
      case rel => exact ⟨k + 1, by omega, by go_num, Ho4.out, Hb3.out⟩
      case measure => simp [intOf]; omega
    · obtain rfl : k = n := by omega
      have Hf : Hid (E = OL) := Lib.hid (by rw [HE.out, HOL.out, List.take_of_length_le (by rw [← Hn.out]; exact Nat.le_refl _)])
      go_wp2_with fail
      go_ret
      exact ⟨_, rfl, by rw [Hf.out]; exact Ho.out, Hb.out⟩
end Go.Proofs.Ythjjelomlgmllaa.Tithe
namespace Go.Proofs.Ythjjelomlgmllaa.Tithe
open Go.RowKit Go.Sort Go.Shelf
theorem psM_lenF (l : List (Int × Mr)) : (psM l).length = l.length := List.length_map _
theorem psM_getDF (l : List (Int × Mr)) (k : Nat) : ((l.getD k (0, Mr.nil)).1, (l.getD k (0, Mr.nil)).2.1) = (psM l).getD k (0, Mr.nil.1) := by
  unfold psM
  rw [List.getD_eq_getElem?_getD, List.getD_eq_getElem?_getD, List.getElem?_map]
  cases l[k]? <;> rfl
theorem plsOk_ps {a b : List (Int × Mr)} (h : psM a = psM b) : ∀ n, plsOk a n = plsOk b n
  | 0 => rfl
  | n + 1 => by
    unfold plsOk
    rw [plsOk_ps h n]
    have h1 := psM_getDF a n
    have h2 := psM_getDF b n
    rw [h, ← h2] at h1
    injection h1 with h3 h4
    unfold plOk
    rw [h3, h4]
theorem recOk_ps {wh : Bool} {s : Int} {ls dr : List Int} {a b : List (Int × Mr)} (h : psM a = psM b) : recOk ⟨wh, s, ls, a, dr⟩ = recOk ⟨wh, s, ls, b, dr⟩ := by
  have hl : a.length = b.length := by rw [← psM_lenF a, h, psM_lenF]
  unfold recOk recHead
  dsimp only
  rw [hl, plsOk_ps h]
theorem flat_ps (l : List (Int × Mr)) : (l.flatMap fun p => encP (p.1, p.2.1)) = (psM l).flatMap encP := by
  unfold psM
  rw [List.flatMap_map]
theorem encR_ps {wh : Bool} {s : Int} {ls dr : List Int} {a b : List (Int × Mr)} (h : psM a = psM b) : encR ⟨wh, s, ls, a, dr⟩ = encR ⟨wh, s, ls, b, dr⟩ := by
  have hl : a.length = b.length := by rw [← psM_lenF a, h, psM_lenF]
  unfold encR
  dsimp only
  rw [hl, flat_ps a, flat_ps b, h]
theorem OwnRx.is {w : World} {base : Nat} {v : Value} {l : List (Int × Int)} (h : OwnRx w base v l) : IsRr w v l := isSl_own rfC_len h
theorem OwnPx.is {W : World} {base : Nat} {v : Value} {l : List (Int × Mr)} (h : OwnPx W base v l) : IsPl W v l := ⟨isSl_own plC_len h.1, fun p hp => (h.2 p hp).is⟩
theorem IsPl.bel {w X : World} {v : Value} {l : List (Int × Mr)} (h : IsPl w v l) (hb : Below w.heap.size w X) : IsPl X v l := ⟨h.1.below hb, fun p hp => (h.2 p hp).below hb⟩
end Go.Proofs.Ythjjelomlgmllaa.Tithe
namespace Go.Proofs.Ythjjelomlgmllaa.Tithe
open Go.RowKit Go.Sort Go.Shelf
set_option linter.unusedVariables false
set_option linter.unusedSimpArgs false
set_option maxRecDepth 100000
/-- the bytes of the first places -/
def encQ (ad : List (Int × Mr)) (k : Nat) : List Nat := (ad.take k).flatMap fun p => encP (p.1, p.2.1)
def encRq (rs : List (Int × Int)) (k : Nat) : List Nat := (rs.take k).flatMap encRf
theorem take_flatE {α : Type} {l : List α} {k : Nat} {x : α} (f : α → List Nat) (h : l[k]? = some x) : (l.take (k + 1)).flatMap f = (l.take k).flatMap f ++ f x := by
  rw [List.take_add_one, h, List.flatMap_append]
  simp
theorem encQ_zero (ad : List (Int × Mr)) : encQ ad 0 = [] := by unfold encQ; rw [List.take_zero, List.flatMap_nil]
theorem encRq_zero (rs : List (Int × Int)) : encRq rs 0 = [] := by unfold encRq; rw [List.take_zero, List.flatMap_nil]
theorem encQ_le {ad : List (Int × Mr)} (h : ∀ p ∈ ad, PlIs (p.1, p.2.1)) (k : Nat) : (encQ ad k).length ≤ 718 * k := by
  unfold encQ
  have := flat_le (f := fun p : Int × Mr => encP (p.1, p.2.1)) (b := 718) (l := ad.take k) (fun p hp => encP_le (h p (List.mem_of_mem_take hp)))
  have h2 : (ad.take k).length ≤ k := by rw [List.length_take]; omega
  exact Nat.le_trans this (Nat.mul_le_mul_left _ h2)
theorem encRq_le {rs : List (Int × Int)} (h : ∀ r ∈ rs, 0 ≤ r.1 ∧ r.1 < 64 ∧ 1 ≤ r.2 ∧ r.2 ≤ 1073741824) (k : Nat) : (encRq rs k).length ≤ 6 * k := by
  unfold encRq
  have := flat_le (f := encRf) (b := 6) (l := rs.take k) (fun p hp => encRf_le (h p (List.mem_of_mem_take hp)))
  have h2 : (rs.take k).length ≤ k := by rw [List.length_take]; omega
  exact Nat.le_trans this (Nat.mul_le_mul_left _ h2)
/-- bytes of a callee's own, appended -/
theorem app_step {w wo w2 : World} {ov v2 : Value} {OL E : List Nat} (ho : OwnBs wo w.heap.size ov OL) (hb : Below w.heap.size w wo) (hb2 : Below wo.heap.size wo w2) (ho2 : OwnBs w2 wo.heap.size v2 E) (hl : OL.length + E.length ≤ 1000000) :
    ∃ (a' : Option Addr) (n' c' : Nat) (w3 : World), (Builtin.append_ #[34, 34] 34 #[ov, v2]).run Try.prog w2 = .ok (.slice a' n' c') w3 ∧ OwnBs w3 w.heap.size (.slice a' n' c') (OL ++ E) ∧ Below w.heap.size w w3 ∧
      (∀ (b : Nat) (cs : Array Value) (t : TypeId) (fr : Nat × Nat), wo.heap[b]? = some (.cells cs t fr) → t ≠ 5 → w3.heap[b]? = some (.cells cs t fr)) := by
  have ho3 := own_below ho hb2
  obtain ⟨v3, w3, hrun, ho4, hg4, -⟩ := app_bs w2 w.heap.size _ v2 OL E ho3 (isSl_own byteC_len ho2) (by omega) (Nat.le_trans hb.size hb2.size)
  obtain ⟨n3, hn3⟩ : ∃ q, q = (OL ++ E).length := ⟨_, rfl⟩
  have ho5 := ho4
  rw [← hn3] at ho5
  obtain ⟨xa, xc, rfl⟩ := own_slice ho5
  exact ⟨xa, n3, xc, w3, hrun, ho4, hb.trans ((hb2.mono hb.size).grown hg4 (Nat.le_trans hb.size hb2.size) (fun g e => (ho3.lt g e).1)), fun b cs t fr h ht => grow_at ho3 (Below.refl _ _) hg4 (blk_bels hb2 h) ht⟩
attribute [local go_sem] Oper.semAt_some
set_option maxHeartbeats 12800000 in
theorem rbytes16_any (wh : Bool) (s : Int) (vl va vd : Value) (ls : List Int) (ad : List (Int × Mr)) (dr : List Int) (w : World) (hl : IsZs w vl ls) (hd : IsZs w vd dr) (ha : IsPl w va ad) (hri : RecIs ⟨wh, s, ls, ad, dr⟩) :
    Calls Try.prog 15 #[.agg #[.bool wh, .int .i64 s, vl, va, vd]] w fun e w' => ∃ v', e = .returned v' ∧ OwnBs w' w.heap.size v' (encR ⟨wh, s, ls, ad, dr⟩) ∧ Below w.heap.size w w' := by
  obtain ⟨s0, s1, lz, ln, dz, dn, an, ap⟩ := hri
  dsimp only at s0 s1 lz ln dz dn an ap
  obtain ⟨sn, rfl⟩ : ∃ q : Nat, s = (q : Int) := ⟨s.toNat, by omega⟩
  have hsn : sn < 9223372036854775808 := by omega
  obtain ⟨wn, hwn⟩ : ∃ q : Nat, q = if wh then 1 else 0 := ⟨_, rfl⟩
  have Hwn := Lib.hid hwn
  have hew : encN (if wh then 1 else 0) = [wn] := by rw [hwn]; cases wh <;> rfl
  obtain ⟨ER, hER⟩ : ∃ q, q = encR ⟨wh, (sn : Int), ls, ad, dr⟩ := ⟨_, rfl⟩
  have HER : Hid (ER = ((((([wn] ++ encN sn) ++ encZs ls) ++ encZs dr) ++ encN ad.length) ++ ad.flatMap fun p => encP (p.1, p.2.1))) := Lib.hid (by rw [hER]; unfold encR; dsimp only; rw [hew, Int.toNat_natCast])
  rw [← hER]
  have hli := fun (X : World) (hX : Below w.heap.size w X) => list16_any vl ls X (hl.below hX) lz ln
  have hdi := fun (X : World) (hX : Below w.heap.size w X) => list16_any vd dr X (hd.below hX) dz dn
  obtain ⟨la, lc, rfl, -, -, -⟩ := id hl
  obtain ⟨da, dc, rfl, -, -, -⟩ := id hd
  obtain ⟨aa, ac, rfl, -, -, -⟩ := id ha.1
  obtain ⟨-, -, -, hax⟩ := ha.1.at
  obtain ⟨nl, hnl⟩ : ∃ q, q = ls.length := ⟨_, rfl⟩
  obtain ⟨nd, hnd⟩ : ∃ q, q = dr.length := ⟨_, rfl⟩
  obtain ⟨na, hna⟩ : ∃ q, q = ad.length := ⟨_, rfl⟩
  rw [← hnl] at hli ⊢
  rw [← hnd] at hdi ⊢
  rw [← hna] at hax an HER ⊢
  have Hna := Lib.hid hna
  have Hax := Lib.hid hax
  have Hli := Lib.hid hli
  have Hdi := Lib.hid hdi
  have Hap := Lib.hid ap
  have Har := Lib.hid ha.2
  have hzl := encZs_le ln
  have hzd := encZs_le dn
  have hw1 : wn ≤ 1 := by rw [hwn]; split <;> omega
  have Hzl := Lib.hid hzl
  have Hzd := Lib.hid hzd
  clear hER hli hdi hnl hnd hna hax hl hd ha lz ln dz dn ap hew hwn hzl hzd
  have hA1 : Below w.heap.size w (w.alloc (.cells #[.bool wh, .int .i64 (sn : Nat), .slice la nl lc, .slice aa na ac, .slice da nd dc] 32)) := (Below.refl _ _).alloc (Nat.le_refl _) _
  have hK1 := blk_of_alloc w (.cells #[.bool wh, .int .i64 (sn : Nat), .slice la nl lc, .slice aa na ac, .slice da nd dc] 32)
  obtain ⟨Wa, hWa⟩ : ∃ q : World, q = w.alloc (.cells #[.bool wh, .int .i64 (sn : Nat), .slice la nl lc, .slice aa na ac, .slice da nd dc] 32) := ⟨_, rfl⟩
  have hs1 : Wa.heap.size = w.heap.size + 1 := by rw [hWa, World.size_alloc]
  rw [← hWa] at hA1 hK1
  have hA2 : Below Wa.heap.size Wa (Wa.alloc (.cells #[.int .u8 0] 5)) := (Below.refl _ _).alloc (Nat.le_refl _) _
  have hK2 := blk_of_alloc Wa (.cells #[.int .u8 0] 5)
  rw [hs1] at hK2
  have HR := Lib.hid (blk_bels hA2 hK1)
  have HG := Lib.hid hK2
  have HB := Lib.hid (hA1.trans (hA2.mono hA1.size))
  obtain ⟨gb, hgb⟩ : ∃ q, q = w.heap.size + 1 := ⟨_, rfl⟩
  obtain ⟨rb, hrb⟩ : ∃ q, q = w.heap.size := ⟨_, rfl⟩
  have Hgb : Hid (gb = w.heap.size + 1 ∧ rb = w.heap.size) := Lib.hid ⟨hgb, hrb⟩
  have HWa := Lib.hid hWa
  rw [← hgb] at HG
  rw [← hrb] at HR
  clear hA1 hK1 hWa hs1 hA2 hK2 hgb hrb
  go_enter Try.func15, Try.ntmps15
  go_upto_region 2 with fail
  rw [← HWa.out, ← Hgb.out.1, ← Hgb.out.2]
  generalize Wa.alloc (.cells #[.int .u8 0] 5) = W at *
  have b0 : W.cell? ⟨rb, 0, none⟩ = some (.bool wh) := by rw [cell_blkR HR.out]; rfl
  go_upto_if 9 with fail
  go_cut [] (fun wc => OwnBs wc w.heap.size (.slice (some ⟨gb, 0, none⟩) 1 1) [wn] ∧ Below w.heap.size w wc ∧ wc.heap[rb]? = some (.cells #[.bool wh, .int .i64 (sn : Nat), .slice la nl lc, .slice aa na ac, .slice da nd dc] 32 (0, 0)))
  case first =>
    cases wh with
    | false =>
      obtain rfl : wn = 0 := Hwn.out
      go_wp2_with fail
      go_meet
      case rel => exact ⟨own_of HG.out (show w.heap.size ≤ gb by have := Hgb.out; omega) (Nat.le_refl _) (by unfold maxLen; omega) rfl rfl, HB.out, HR.out⟩
    | true =>
      obtain rfl : wn = 1 := Hwn.out
      have g0 : W.cell? ⟨gb, 0, none⟩ = some (.int .u8 0) := by rw [cell_blkR HG.out]; rfl
      have g1 := frozen_blkR HG.out 0
      have HG2 : Hid ((W.setCell ⟨gb, 0, none⟩ (.int .u8 1)).heap[gb]? = some (.cells #[.int .u8 1] 5 (0, 0))) := Lib.hid (by rw [blk_setCellR HG.out]; rfl)
      go_wp2_with fail
      go_meet
      case rel => exact ⟨own_of HG2.out (show w.heap.size ≤ gb by have := Hgb.out; omega) (Nat.le_refl _) (by unfold maxLen; omega) rfl rfl, Below.setCell (p := ⟨gb, 0, none⟩) HB.out (show w.heap.size ≤ gb by have := Hgb.out; omega) _, (Below.heap_setCell W ⟨gb, 0, none⟩ _ rb (by have := Hgb.out; show rb ≠ gb; omega)).trans HR.out⟩
  case rest =>
    obtain ⟨ho0, hb0, hr0⟩ := hcut
    have HO0 := Lib.hid ho0
    have HB0 := Lib.hid hb0
    have HR0 := Lib.hid hr0
    have Hl0 : Hid (([wn] : List Nat).length ≤ 1) := Lib.hid (Nat.le_refl _)
    clear ho0 hb0 hr0 b0 HR HG HB HWa
    have cz1 : wc.cell? ⟨rb, 1, none⟩ = some (.int .i64 (sn : Nat)) := by rw [cell_blkR HR0.out]; rfl
    have Hc1x0 := Lib.hid (rnum_any sn wc hsn)
    go_wp2_with fail
    refine Hc1x0.out.mono ?_
    rintro e w1x0 ⟨v1x0, rfl, ho1x0, hb1x0⟩
    obtain ⟨q1x0, hq1x0⟩ : ∃ q, q = (encN sn).length := ⟨_, rfl⟩
    have hz1x0 := ho1x0
    rw [OwnBs, ← hq1x0] at hz1x0
    obtain ⟨qa1x0, qc1x0, rfl⟩ := own_slice hz1x0
    clear hz1x0 Hc1x0 hq1x0
    have hbel1' := hb1x0
    have hown1 := ho1x0
    obtain ⟨a1, n1, c1, u1, hrun, hO1, hB1, hK1⟩ := app_step HO0.out HB0.out hbel1' hown1 (by have := Hl0.out; have := encN_le sn; omega)
    obtain ⟨L1, hL1⟩ : ∃ q, q = [wn] ++ encN sn := ⟨_, rfl⟩
    have HL1 := Lib.hid hL1
    have Hl1 : Hid (L1.length ≤ 1+10) := Lib.hid (by rw [hL1, List.length_append]; have := Hl0.out; have := encN_le sn; omega)
    rw [← hL1] at hO1
    have HO1 := Lib.hid hO1
    have HB1 := Lib.hid hB1
    have HK1x0 := Lib.hid (hK1 _ _ _ _ HR0.out (by decide))
    clear hO1 hB1 hK1 hL1 hbel1' hown1 ho1x0 hb1x0 cz1
    go_upto_region 5 with (at_builtin; first | (refine wpList_val rfl _ _ (run_append_op (.tmp 12) (.tmp 15) 34 34 rfl rfl rfl hrun) ?_) | (refine wpList_val rfl _ _ (run_append_op (.tmp 12) (.tmp 15) 34 34 rfl (by simp) (by simp) hrun) ?_))
    have cz2 : u1.cell? ⟨rb, 2, none⟩ = some (.slice la nl lc) := by rw [cell_blkR HK1x0.out]; rfl
    have Hc2x0 := Lib.hid (Hli.out u1 HB1.out)
    go_wp2_with fail
    refine Hc2x0.out.mono ?_
    rintro e w2x0 ⟨v2x0, rfl, ho2x0, hb2x0⟩
    obtain ⟨q2x0, hq2x0⟩ : ∃ q, q = (encZs ls).length := ⟨_, rfl⟩
    have hz2x0 := ho2x0
    rw [OwnBs, ← hq2x0] at hz2x0
    obtain ⟨qa2x0, qc2x0, rfl⟩ := own_slice hz2x0
    clear hz2x0 Hc2x0 hq2x0
    have hbel2' := hb2x0
    have hown2 := ho2x0
    obtain ⟨a2, n2, c2, u2, hrun, hO2, hB2, hK2⟩ := app_step HO1.out HB1.out hbel2' hown2 (by have := Hl1.out; have := Hzl.out; omega)
    obtain ⟨L2, hL2⟩ : ∃ q, q = L1 ++ encZs ls := ⟨_, rfl⟩
    have HL2 := Lib.hid hL2
    have Hl2 : Hid (L2.length ≤ 1+10+650) := Lib.hid (by rw [hL2, List.length_append]; have := Hl1.out; have := Hzl.out; omega)
    rw [← hL2] at hO2
    have HO2 := Lib.hid hO2
    have HB2 := Lib.hid hB2
    have HK2x0 := Lib.hid (hK2 _ _ _ _ HK1x0.out (by decide))
    clear hO2 hB2 hK2 hL2 hbel2' hown2 ho2x0 hb2x0 cz2
    go_upto_region 6 with (at_builtin; first | (refine wpList_val rfl _ _ (run_append_op (.tmp 17) (.tmp 20) 34 34 rfl rfl rfl hrun) ?_) | (refine wpList_val rfl _ _ (run_append_op (.tmp 17) (.tmp 20) 34 34 rfl (by simp) (by simp) hrun) ?_))
    have cz4 : u2.cell? ⟨rb, 4, none⟩ = some (.slice da nd dc) := by rw [cell_blkR HK2x0.out]; rfl
    have Hc3x0 := Lib.hid (Hdi.out u2 HB2.out)
    go_wp2_with fail
    refine Hc3x0.out.mono ?_
    rintro e w3x0 ⟨v3x0, rfl, ho3x0, hb3x0⟩
    obtain ⟨q3x0, hq3x0⟩ : ∃ q, q = (encZs dr).length := ⟨_, rfl⟩
    have hz3x0 := ho3x0
    rw [OwnBs, ← hq3x0] at hz3x0
    obtain ⟨qa3x0, qc3x0, rfl⟩ := own_slice hz3x0
    clear hz3x0 Hc3x0 hq3x0
    have hbel3' := hb3x0
    have hown3 := ho3x0
    obtain ⟨a3, n3, c3, u3, hrun, hO3, hB3, hK3⟩ := app_step HO2.out HB2.out hbel3' hown3 (by have := Hl2.out; have := Hzd.out; omega)
    obtain ⟨L3, hL3⟩ : ∃ q, q = L2 ++ encZs dr := ⟨_, rfl⟩
    have HL3 := Lib.hid hL3
    have Hl3 : Hid (L3.length ≤ 1+10+650+650) := Lib.hid (by rw [hL3, List.length_append]; have := Hl2.out; have := Hzd.out; omega)
    rw [← hL3] at hO3
    have HO3 := Lib.hid hO3
    have HB3 := Lib.hid hB3
    have HK3x0 := Lib.hid (hK3 _ _ _ _ HK2x0.out (by decide))
    clear hO3 hB3 hK3 hL3 hbel3' hown3 ho3x0 hb3x0 cz4
    go_upto_region 7 with (at_builtin; first | (refine wpList_val rfl _ _ (run_append_op (.tmp 22) (.tmp 25) 34 34 rfl rfl rfl hrun) ?_) | (refine wpList_val rfl _ _ (run_append_op (.tmp 22) (.tmp 25) 34 34 rfl (by simp) (by simp) hrun) ?_))
    have cz3 : u3.cell? ⟨rb, 3, none⟩ = some (.slice aa na ac) := by rw [cell_blkR HK3x0.out]; rfl
    have Hc4x0 := Lib.hid (rnum_any na u3 (by omega))
    go_wp2_with fail
    refine Hc4x0.out.mono ?_
    rintro e w4x0 ⟨v4x0, rfl, ho4x0, hb4x0⟩
    obtain ⟨q4x0, hq4x0⟩ : ∃ q, q = (encN na).length := ⟨_, rfl⟩
    have hz4x0 := ho4x0
    rw [OwnBs, ← hq4x0] at hz4x0
    obtain ⟨qa4x0, qc4x0, rfl⟩ := own_slice hz4x0
    clear hz4x0 Hc4x0 hq4x0
    have hbel4' := hb4x0
    have hown4 := ho4x0
    obtain ⟨a4, n4, c4, u4, hrun, hO4, hB4, hK4⟩ := app_step HO3.out HB3.out hbel4' hown4 (by have := Hl3.out; have := encN_le na; omega)
    obtain ⟨L4, hL4⟩ : ∃ q, q = L3 ++ encN na := ⟨_, rfl⟩
    have HL4 := Lib.hid hL4
    have Hl4 : Hid (L4.length ≤ 1+10+650+650+10) := Lib.hid (by rw [hL4, List.length_append]; have := Hl3.out; have := encN_le na; omega)
    rw [← hL4] at hO4
    have HO4 := Lib.hid hO4
    have HB4 := Lib.hid hB4
    have HK4x0 := Lib.hid (hK4 _ _ _ _ HK3x0.out (by decide))
    clear hO4 hB4 hK4 hL4 hbel4' hown4 ho4x0 hb4x0 cz3
    go_wp2_with (at_builtin; first | (refine wpList_val rfl _ _ (run_append_op (.tmp 27) (.tmp 31) 34 34 rfl rfl rfl hrun) ?_) | (refine wpList_val rfl _ _ (run_append_op (.tmp 27) (.tmp 31) 34 34 rfl (by simp) (by simp) hrun) ?_))
    clear HR0 HO0 HB0 HK1x0 HK2x0 HK3x0 HO1 HO2 HO3 HB1 HB2 HB3
    go_loopw [3, 4] (fun ov iv wr => ∃ k : Nat, k ≤ na ∧ iv = .int .i64 k ∧ OwnBs wr w.heap.size ov (L4 ++ encQ ad k) ∧ Below w.heap.size w wr ∧ wr.heap[rb]? = some (.cells #[.bool wh, .int .i64 (sn : Nat), .slice la nl lc, .slice aa na ac, .slice da nd dc] 32 (0, 0))) (fun _ i _ => na - (intOf i).toNat)
    case atStart => exact ⟨0, Nat.zero_le _, rfl, by rw [encQ_zero, List.append_nil]; exact HO4.out, HB4.out, HK4x0.out⟩
    case round =>
      obtain ⟨k, hk, rfl, ho, hb, hr⟩ := hrel
      obtain ⟨wo, rfl⟩ : ∃ wo : World, wo = wr := ⟨_, rfl⟩
      obtain ⟨LX, hLX⟩ : ∃ q, q = L4 ++ encQ ad k := ⟨_, rfl⟩
      have HLX := Lib.hid hLX
      have HlX : Hid (LX.length ≤ 60000) := Lib.hid (by rw [hLX, List.length_append]; have := Hl4.out; have := encQ_le Hap.out k; omega)
      rw [← hLX] at ho
      have HOX := Lib.hid ho
      have HBX := Lib.hid hb
      have HRX := Lib.hid hr
      clear ho hb hr hLX
      by_cases hkn : k < na
      · obtain ⟨b, off, rfl, hcell⟩ := Hax.out (by omega)
        obtain ⟨⟨lv, ⟨mz, mn, ka, kb, rs⟩, rv⟩, hpk⟩ : ∃ x, ad[k]? = some x := ⟨_, List.getElem?_eq_getElem (by rw [← Hna.out]; exact hkn)⟩
        have Hpk := Lib.hid hpk
        have hpi := Hap.out _ (List.mem_of_getElem? hpk)
        have hrv := Har.out _ (List.mem_of_getElem? hpk)
        obtain ⟨p1, p2, p3, p4, p5, p6, hka, hkb, p9, p10⟩ := hpi
        obtain ⟨d0, d1, d2, d3, d4, d5, d6, d7, d8, d9⟩ := IsPl.row (w := wo) (fun i x hi y z hz => (HBX.out.cell (block_lt_of_cell (hcell i x hi y z hz))).trans (hcell i x hi y z hz)) hpk
        dsimp only at p1 p2 p3 p4 p5 p6 hka hkb p9 p10 hrv d0 d1 d2 d3 d4 d5 d6 d7 d8 d9
        obtain ⟨lv, rfl⟩ : ∃ q : Nat, lv = (q : Int) := ⟨lv.toNat, by omega⟩
        obtain ⟨mz, rfl⟩ : ∃ q : Nat, mz = (q : Int) := ⟨mz.toNat, by omega⟩
        obtain ⟨mn, rfl⟩ : ∃ q : Nat, mn = (q : Int) := ⟨mn.toNat, by omega⟩
        obtain ⟨ra, rcp, rfl, -, -, -⟩ := id hrv
        obtain ⟨-, -, -, hrx⟩ := IsSl.at hrv
        obtain ⟨rn, hrn⟩ : ∃ q, q = rs.length := ⟨_, rfl⟩
        rw [← hrn] at hrx p10 d9
        have Hrn := Lib.hid hrn
        have Hrx := Lib.hid hrx
        have Hp9 := Lib.hid p9
        have Hka := Lib.hid hka
        have Hkb := Lib.hid hkb
        clear hpk hcell hrv hrx p9 hka hkb hrn
        have q0 : lv < 9223372036854775808 := by omega
        have q1 : mz < 9223372036854775808 := by omega
        have q2 : mn < 9223372036854775808 := by omega
        have q3 : rn < 9223372036854775808 := by omega
        have hlt : (k : Int) < (na : Int) := by omega
        have e0 : wo.cell? ⟨rb, 3, none⟩ = some (.slice (some ⟨b, off, none⟩) na ac) := by rw [cell_blkR HRX.out]; rfl
        have hA : Below wo.heap.size wo (wo.alloc (.cells #[.int .i64 (mz : Nat), .int .i64 (mn : Nat), .string ka.u, .int .i64 ka.s, .int .i64 ka.k, .string kb.u, .int .i64 kb.s, .int .i64 kb.k, .slice ra rn rcp] 85)) := (Below.refl _ _).alloc (Nat.le_refl _) _
        have HA := Lib.hid hA
        have Hmz := Lib.hid (blk_of_alloc wo (.cells #[.int .i64 (mz : Nat), .int .i64 (mn : Nat), .string ka.u, .int .i64 ka.s, .int .i64 ka.k, .string kb.u, .int .i64 kb.s, .int .i64 kb.k, .slice ra rn rcp] 85))
        clear hA
        have HOm := Lib.hid (own_below HOX.out HA.out)
        have HBm := Lib.hid (HBX.out.trans (HA.out.mono HBX.out.size))
        have HRm := Lib.hid (blk_bels HA.out HRX.out)
        have hmb : rb ≠ wo.heap.size := by have := blk_lt HRX.out; omega
        have hd0 : (wo.alloc (.cells #[.int .i64 (mz : Nat), .int .i64 (mn : Nat), .string ka.u, .int .i64 ka.s, .int .i64 ka.k, .string kb.u, .int .i64 kb.s, .int .i64 kb.k, .slice ra rn rcp] 85)).cell? ⟨b, off + k * 10, none⟩ = some (.int .i64 (lv : Nat)) := (HA.out.cell (block_lt_of_cell d0)).trans d0
        go_upto_region 12 with fail
        clear d0 d1 d2 d3 d4 d5 d6 d7 d8 d9 e0 hmb HOX HBX HRX HA
        obtain ⟨mb, hmb⟩ : ∃ q, q = wo.heap.size := ⟨_, rfl⟩
        rw [← hmb] at Hmz ⊢
        clear hmb
        generalize wo.alloc (.cells #[.int .i64 (mz : Nat), .int .i64 (mn : Nat), .string ka.u, .int .i64 ka.s, .int .i64 ka.k, .string kb.u, .int .i64 kb.s, .int .i64 kb.k, .slice ra rn rcp] 85) = Wm at *
        have e0 : Wm.cell? ⟨rb, 3, none⟩ = some (.slice (some ⟨b, off, none⟩) na ac) := by rw [cell_blkR HRm.out]; rfl
        have Hc5x0 := Lib.hid (rnum_any lv Wm q0)
        go_wp2_with fail
        refine Hc5x0.out.mono ?_
        rintro e w5x0 ⟨v5x0, rfl, ho5x0, hb5x0⟩
        obtain ⟨q5x0, hq5x0⟩ : ∃ q, q = (encN lv).length := ⟨_, rfl⟩
        have hz5x0 := ho5x0
        rw [OwnBs, ← hq5x0] at hz5x0
        obtain ⟨qa5x0, qc5x0, rfl⟩ := own_slice hz5x0
        clear hz5x0 Hc5x0 hq5x0
        have hbel5' := hb5x0
        have hown5 := ho5x0
        obtain ⟨a5, n5, c5, u5, hrun, hO5, hB5, hK5⟩ := app_step HOm.out HBm.out hbel5' hown5 (by have := HlX.out; have := encN_le lv; omega)
        obtain ⟨L5, hL5⟩ : ∃ q, q = LX ++ encN lv := ⟨_, rfl⟩
        have HL5 := Lib.hid hL5
        have Hl5 : Hid (L5.length ≤ 60000+10) := Lib.hid (by rw [hL5, List.length_append]; have := HlX.out; have := encN_le lv; omega)
        rw [← hL5] at hO5
        have HO5 := Lib.hid hO5
        have HB5 := Lib.hid hB5
        have HK5x0 := Lib.hid (hK5 _ _ _ _ HRm.out (by decide))
        have HK5x1 := Lib.hid (hK5 _ _ _ _ Hmz.out (by decide))
        clear hO5 hB5 hK5 hL5 hbel5' hown5 ho5x0 hb5x0
        go_upto_region 13 with (at_builtin; first | (refine wpList_val rfl _ _ (run_append_op (.tmp 46) (.tmp 53) 34 34 rfl rfl rfl hrun) ?_) | (refine wpList_val rfl _ _ (run_append_op (.tmp 46) (.tmp 53) 34 34 rfl (by simp) (by simp) hrun) ?_))
        have cz0 : u5.cell? ⟨mb, 0, none⟩ = some (.int .i64 (mz : Nat)) := by rw [cell_blkR HK5x1.out]; rfl
        have Hc6x0 := Lib.hid (rnum_any mz u5 q1)
        go_wp2_with fail
        refine Hc6x0.out.mono ?_
        rintro e w6x0 ⟨v6x0, rfl, ho6x0, hb6x0⟩
        obtain ⟨q6x0, hq6x0⟩ : ∃ q, q = (encN mz).length := ⟨_, rfl⟩
        have hz6x0 := ho6x0
        rw [OwnBs, ← hq6x0] at hz6x0
        obtain ⟨qa6x0, qc6x0, rfl⟩ := own_slice hz6x0
        clear hz6x0 Hc6x0 hq6x0
        have hbel6' := hb6x0
        have hown6 := ho6x0
        obtain ⟨a6, n6, c6, u6, hrun, hO6, hB6, hK6⟩ := app_step HO5.out HB5.out hbel6' hown6 (by have := Hl5.out; have := encN_le mz; omega)
        obtain ⟨L6, hL6⟩ : ∃ q, q = L5 ++ encN mz := ⟨_, rfl⟩
        have HL6 := Lib.hid hL6
        have Hl6 : Hid (L6.length ≤ 60000+10+10) := Lib.hid (by rw [hL6, List.length_append]; have := Hl5.out; have := encN_le mz; omega)
        rw [← hL6] at hO6
        have HO6 := Lib.hid hO6
        have HB6 := Lib.hid hB6
        have HK6x0 := Lib.hid (hK6 _ _ _ _ HK5x0.out (by decide))
        have HK6x1 := Lib.hid (hK6 _ _ _ _ HK5x1.out (by decide))
        clear hO6 hB6 hK6 hL6 hbel6' hown6 ho6x0 hb6x0 cz0
        go_upto_region 14 with (at_builtin; first | (refine wpList_val rfl _ _ (run_append_op (.tmp 55) (.tmp 58) 34 34 rfl rfl rfl hrun) ?_) | (refine wpList_val rfl _ _ (run_append_op (.tmp 55) (.tmp 58) 34 34 rfl (by simp) (by simp) hrun) ?_))
        have cz1 : u6.cell? ⟨mb, 1, none⟩ = some (.int .i64 (mn : Nat)) := by rw [cell_blkR HK6x1.out]; rfl
        have Hc7x0 := Lib.hid (rnum_any mn u6 q2)
        go_wp2_with fail
        refine Hc7x0.out.mono ?_
        rintro e w7x0 ⟨v7x0, rfl, ho7x0, hb7x0⟩
        obtain ⟨q7x0, hq7x0⟩ : ∃ q, q = (encN mn).length := ⟨_, rfl⟩
        have hz7x0 := ho7x0
        rw [OwnBs, ← hq7x0] at hz7x0
        obtain ⟨qa7x0, qc7x0, rfl⟩ := own_slice hz7x0
        clear hz7x0 Hc7x0 hq7x0
        have hbel7' := hb7x0
        have hown7 := ho7x0
        obtain ⟨a7, n7, c7, u7, hrun, hO7, hB7, hK7⟩ := app_step HO6.out HB6.out hbel7' hown7 (by have := Hl6.out; have := encN_le mn; omega)
        obtain ⟨L7, hL7⟩ : ∃ q, q = L6 ++ encN mn := ⟨_, rfl⟩
        have HL7 := Lib.hid hL7
        have Hl7 : Hid (L7.length ≤ 60000+10+10+10) := Lib.hid (by rw [hL7, List.length_append]; have := Hl6.out; have := encN_le mn; omega)
        rw [← hL7] at hO7
        have HO7 := Lib.hid hO7
        have HB7 := Lib.hid hB7
        have HK7x0 := Lib.hid (hK7 _ _ _ _ HK6x0.out (by decide))
        have HK7x1 := Lib.hid (hK7 _ _ _ _ HK6x1.out (by decide))
        clear hO7 hB7 hK7 hL7 hbel7' hown7 ho7x0 hb7x0 cz1
        go_upto_region 15 with (at_builtin; first | (refine wpList_val rfl _ _ (run_append_op (.tmp 60) (.tmp 63) 34 34 rfl rfl rfl hrun) ?_) | (refine wpList_val rfl _ _ (run_append_op (.tmp 60) (.tmp 63) 34 34 rfl (by simp) (by simp) hrun) ?_))
        have cz2 : u7.cell? ⟨mb, 2, none⟩ = some (.string ka.u) := by rw [cell_blkR HK7x1.out]; rfl
        have cz3 : u7.cell? ⟨mb, 3, none⟩ = some (.int .i64 ka.s) := by rw [cell_blkR HK7x1.out]; rfl
        have cz4 : u7.cell? ⟨mb, 4, none⟩ = some (.int .i64 ka.k) := by rw [cell_blkR HK7x1.out]; rfl
        have Hc8x0 := Lib.hid (kref_any ka Hka.out u7)
        go_wp2_with fail
        refine Hc8x0.out.mono ?_
        rintro e w8x0 ⟨v8x0, rfl, ho8x0, hb8x0⟩
        obtain ⟨q8x0, hq8x0⟩ : ∃ q, q = (encK ka).length := ⟨_, rfl⟩
        have hz8x0 := ho8x0
        rw [OwnBs, ← hq8x0] at hz8x0
        obtain ⟨qa8x0, qc8x0, rfl⟩ := own_slice hz8x0
        clear hz8x0 Hc8x0 hq8x0
        have hbel8 := hb8x0
        have Hc8x1 := Lib.hid (rtext_any _ (encK ka) w8x0 (isSl_own byteC_len ho8x0) (by have := encK_len ka; have := okK_size Hka.out; omega))
        go_wp2_with fail
        refine Hc8x1.out.mono ?_
        rintro e w8x1 ⟨v8x1, rfl, ho8x1, hb8x1⟩
        obtain ⟨q8x1, hq8x1⟩ : ∃ q, q = ((encN (encK ka).length ++ encK ka)).length := ⟨_, rfl⟩
        have hz8x1 := ho8x1
        rw [OwnBs, ← hq8x1] at hz8x1
        obtain ⟨qa8x1, qc8x1, rfl⟩ := own_slice hz8x1
        clear hz8x1 Hc8x1 hq8x1
        have hbel8' := hbel8.trans (hb8x1.mono hbel8.size)
        have hown8 := own_mono ho8x1 hbel8.size
        obtain ⟨a8, n8, c8, u8, hrun, hO8, hB8, hK8⟩ := app_step HO7.out HB7.out hbel8' hown8 (by have := Hl7.out; have := (show (encN (encK ka).length ++ encK ka).length ≤ 147 from txtK_le Hka.out); omega)
        obtain ⟨L8, hL8⟩ : ∃ q, q = L7 ++ (encN (encK ka).length ++ encK ka) := ⟨_, rfl⟩
        have HL8 := Lib.hid hL8
        have Hl8 : Hid (L8.length ≤ 60000+10+10+10+147) := Lib.hid (by rw [hL8, List.length_append]; have := Hl7.out; have := (show (encN (encK ka).length ++ encK ka).length ≤ 147 from txtK_le Hka.out); omega)
        rw [← hL8] at hO8
        have HO8 := Lib.hid hO8
        have HB8 := Lib.hid hB8
        have HK8x0 := Lib.hid (hK8 _ _ _ _ HK7x0.out (by decide))
        have HK8x1 := Lib.hid (hK8 _ _ _ _ HK7x1.out (by decide))
        clear hO8 hB8 hK8 hL8 hbel8' hown8 ho8x0 hb8x0 ho8x1 hb8x1 hbel8 cz2 cz3 cz4
        go_upto_region 16 with (at_builtin; first | (refine wpList_val rfl _ _ (run_append_op (.tmp 65) (.tmp 69) 34 34 rfl rfl rfl hrun) ?_) | (refine wpList_val rfl _ _ (run_append_op (.tmp 65) (.tmp 69) 34 34 rfl (by simp) (by simp) hrun) ?_))
        have cz5 : u8.cell? ⟨mb, 5, none⟩ = some (.string kb.u) := by rw [cell_blkR HK8x1.out]; rfl
        have cz6 : u8.cell? ⟨mb, 6, none⟩ = some (.int .i64 kb.s) := by rw [cell_blkR HK8x1.out]; rfl
        have cz7 : u8.cell? ⟨mb, 7, none⟩ = some (.int .i64 kb.k) := by rw [cell_blkR HK8x1.out]; rfl
        have Hc9x0 := Lib.hid (kref_any kb Hkb.out u8)
        go_wp2_with fail
        refine Hc9x0.out.mono ?_
        rintro e w9x0 ⟨v9x0, rfl, ho9x0, hb9x0⟩
        obtain ⟨q9x0, hq9x0⟩ : ∃ q, q = (encK kb).length := ⟨_, rfl⟩
        have hz9x0 := ho9x0
        rw [OwnBs, ← hq9x0] at hz9x0
        obtain ⟨qa9x0, qc9x0, rfl⟩ := own_slice hz9x0
        clear hz9x0 Hc9x0 hq9x0
        have hbel9 := hb9x0
        have Hc9x1 := Lib.hid (rtext_any _ (encK kb) w9x0 (isSl_own byteC_len ho9x0) (by have := encK_len kb; have := okK_size Hkb.out; omega))
        go_wp2_with fail
        refine Hc9x1.out.mono ?_
        rintro e w9x1 ⟨v9x1, rfl, ho9x1, hb9x1⟩
        obtain ⟨q9x1, hq9x1⟩ : ∃ q, q = ((encN (encK kb).length ++ encK kb)).length := ⟨_, rfl⟩
        have hz9x1 := ho9x1
        rw [OwnBs, ← hq9x1] at hz9x1
        obtain ⟨qa9x1, qc9x1, rfl⟩ := own_slice hz9x1
        clear hz9x1 Hc9x1 hq9x1
        have hbel9' := hbel9.trans (hb9x1.mono hbel9.size)
        have hown9 := own_mono ho9x1 hbel9.size
        obtain ⟨a9, n9, c9, u9, hrun, hO9, hB9, hK9⟩ := app_step HO8.out HB8.out hbel9' hown9 (by have := Hl8.out; have := (show (encN (encK kb).length ++ encK kb).length ≤ 147 from txtK_le Hkb.out); omega)
        obtain ⟨L9, hL9⟩ : ∃ q, q = L8 ++ (encN (encK kb).length ++ encK kb) := ⟨_, rfl⟩
        have HL9 := Lib.hid hL9
        have Hl9 : Hid (L9.length ≤ 60000+10+10+10+147+147) := Lib.hid (by rw [hL9, List.length_append]; have := Hl8.out; have := (show (encN (encK kb).length ++ encK kb).length ≤ 147 from txtK_le Hkb.out); omega)
        rw [← hL9] at hO9
        have HO9 := Lib.hid hO9
        have HB9 := Lib.hid hB9
        have HK9x0 := Lib.hid (hK9 _ _ _ _ HK8x0.out (by decide))
        have HK9x1 := Lib.hid (hK9 _ _ _ _ HK8x1.out (by decide))
        clear hO9 hB9 hK9 hL9 hbel9' hown9 ho9x0 hb9x0 ho9x1 hb9x1 hbel9 cz5 cz6 cz7
        go_upto_region 17 with (at_builtin; first | (refine wpList_val rfl _ _ (run_append_op (.tmp 71) (.tmp 75) 34 34 rfl rfl rfl hrun) ?_) | (refine wpList_val rfl _ _ (run_append_op (.tmp 71) (.tmp 75) 34 34 rfl (by simp) (by simp) hrun) ?_))
        have cz8 : u9.cell? ⟨mb, 8, none⟩ = some (.slice ra rn rcp) := by rw [cell_blkR HK9x1.out]; rfl
        have Hc10x0 := Lib.hid (rnum_any rn u9 q3)
        go_wp2_with fail
        refine Hc10x0.out.mono ?_
        rintro e w10x0 ⟨v10x0, rfl, ho10x0, hb10x0⟩
        obtain ⟨q10x0, hq10x0⟩ : ∃ q, q = (encN rn).length := ⟨_, rfl⟩
        have hz10x0 := ho10x0
        rw [OwnBs, ← hq10x0] at hz10x0
        obtain ⟨qa10x0, qc10x0, rfl⟩ := own_slice hz10x0
        clear hz10x0 Hc10x0 hq10x0
        have hbel10' := hb10x0
        have hown10 := ho10x0
        obtain ⟨a10, n10, c10, u10, hrun, hO10, hB10, hK10⟩ := app_step HO9.out HB9.out hbel10' hown10 (by have := Hl9.out; have := encN_le rn; omega)
        obtain ⟨L10, hL10⟩ : ∃ q, q = L9 ++ encN rn := ⟨_, rfl⟩
        have HL10 := Lib.hid hL10
        have Hl10 : Hid (L10.length ≤ 60000+10+10+10+147+147+10) := Lib.hid (by rw [hL10, List.length_append]; have := Hl9.out; have := encN_le rn; omega)
        rw [← hL10] at hO10
        have HO10 := Lib.hid hO10
        have HB10 := Lib.hid hB10
        have HK10x0 := Lib.hid (hK10 _ _ _ _ HK9x0.out (by decide))
        have HK10x1 := Lib.hid (hK10 _ _ _ _ HK9x1.out (by decide))
        clear hO10 hB10 hK10 hL10 hbel10' hown10 ho10x0 hb10x0 cz8
        go_wp2_with (at_builtin; first | (refine wpList_val rfl _ _ (run_append_op (.tmp 77) (.tmp 81) 34 34 rfl rfl rfl hrun) ?_) | (refine wpList_val rfl _ _ (run_append_op (.tmp 77) (.tmp 81) 34 34 rfl (by simp) (by simp) hrun) ?_))
        clear HOm HBm HRm Hmz HO5 HB5 HK5x0 HK5x1 HO6 HB6 HK6x0 HK6x1 HO7 HB7 HK7x0 HK7x1 HO8 HB8 HK8x0 HK8x1 HO9 HB9 HK9x0 HK9x1
        go_loopw [3, 6] (fun ov jv wr => ∃ j : Nat, j ≤ rn ∧ jv = .int .i64 j ∧ OwnBs wr w.heap.size ov (L10 ++ encRq rs j) ∧ Below w.heap.size w wr ∧ wr.heap[rb]? = some (.cells #[.bool wh, .int .i64 (sn : Nat), .slice la nl lc, .slice (some ⟨b, off, none⟩) na ac, .slice da nd dc] 32 (0, 0)) ∧ wr.heap[mb]? = some (.cells #[.int .i64 (mz : Nat), .int .i64 (mn : Nat), .string ka.u, .int .i64 ka.s, .int .i64 ka.k, .string kb.u, .int .i64 kb.s, .int .i64 kb.k, .slice ra rn rcp] 85 (0, 0))) (fun _ j _ => rn - (intOf j).toNat)
        case atStart => exact ⟨0, Nat.zero_le _, rfl, by rw [encRq_zero, List.append_nil]; exact HO10.out, HB10.out, HK10x0.out, HK10x1.out⟩
        case round =>
          obtain ⟨j, hj, rfl, ho, hb, hr, hm⟩ := hrel
          obtain ⟨wp, rfl⟩ : ∃ wp : World, wp = wr := ⟨_, rfl⟩
          obtain ⟨LY, hLY⟩ : ∃ q, q = L10 ++ encRq rs j := ⟨_, rfl⟩
          have HLY := Lib.hid hLY
          have HlY : Hid (LY.length ≤ 70000) := Lib.hid (by rw [hLY, List.length_append]; have := Hl10.out; have := encRq_le Hp9.out j; omega)
          rw [← hLY] at ho
          have HOY := Lib.hid ho
          have HBY := Lib.hid hb
          have HRY := Lib.hid hr
          have HMY := Lib.hid hm
          clear ho hb hr hm hLY
          by_cases hjn : j < rn
          · obtain ⟨b2, off2, rfl, hcell2⟩ := Hrx.out (by omega)
            obtain ⟨⟨x1, x2⟩, hpj⟩ : ∃ x, rs[j]? = some x := ⟨_, List.getElem?_eq_getElem (by rw [← Hrn.out]; exact hjn)⟩
            have Hpj := Lib.hid hpj
            obtain ⟨r1, r2, r3, r4⟩ := Hp9.out _ (List.mem_of_getElem? hpj)
            dsimp only at r1 r2 r3 r4
            obtain ⟨x1, rfl⟩ : ∃ q : Nat, x1 = (q : Int) := ⟨x1.toNat, by omega⟩
            obtain ⟨x2, rfl⟩ : ∃ q : Nat, x2 = (q : Int) := ⟨x2.toNat, by omega⟩
            have t0 := hcell2 j _ hpj 0 _ rfl
            have t1 := hcell2 j _ hpj 1 _ rfl
            have T0 := Lib.hid t0
            have T1 := Lib.hid t1
            have g0 : wp.cell? ⟨b2, off2 + j * 2, none⟩ = some (.int .i64 (x1 : Nat)) := (HBY.out.cell (block_lt_of_cell t0)).trans t0
            have hltj : (j : Int) < (rn : Int) := by omega
            have y1 : x1 < 9223372036854775808 := by omega
            have y2 : x2 < 9223372036854775808 := by omega
            clear hpj hcell2 t0 t1
            have cz8 : wp.cell? ⟨mb, 8, none⟩ = some (.slice (some ⟨b2, off2, none⟩) rn rcp) := by rw [cell_blkR HMY.out]; rfl
            have Hc11x0 := Lib.hid (rnum_any x1 wp y1)
            go_wp2_with fail
            refine Hc11x0.out.mono ?_
            rintro e w11x0 ⟨v11x0, rfl, ho11x0, hb11x0⟩
            obtain ⟨q11x0, hq11x0⟩ : ∃ q, q = (encN x1).length := ⟨_, rfl⟩
            have hz11x0 := ho11x0
            rw [OwnBs, ← hq11x0] at hz11x0
            obtain ⟨qa11x0, qc11x0, rfl⟩ := own_slice hz11x0
            clear hz11x0 Hc11x0 hq11x0
            have hbel11' := hb11x0
            have hown11 := ho11x0
            obtain ⟨a11, n11, c11, u11, hrun, hO11, hB11, hK11⟩ := app_step HOY.out HBY.out hbel11' hown11 (by have := HlY.out; have := encN_le x1; omega)
            obtain ⟨L11, hL11⟩ : ∃ q, q = LY ++ encN x1 := ⟨_, rfl⟩
            have HL11 := Lib.hid hL11
            have Hl11 : Hid (L11.length ≤ 70000+10) := Lib.hid (by rw [hL11, List.length_append]; have := HlY.out; have := encN_le x1; omega)
            rw [← hL11] at hO11
            have HO11 := Lib.hid hO11
            have HB11 := Lib.hid hB11
            have HK11x0 := Lib.hid (hK11 _ _ _ _ HRY.out (by decide))
            have HK11x1 := Lib.hid (hK11 _ _ _ _ HMY.out (by decide))
            clear hO11 hB11 hK11 hL11 hbel11' hown11 ho11x0 hb11x0 cz8
            go_upto_region 22 with (at_builtin; first | (refine wpList_val rfl _ _ (run_append_op (.tmp 90) (.tmp 97) 34 34 rfl rfl rfl hrun) ?_) | (refine wpList_val rfl _ _ (run_append_op (.tmp 90) (.tmp 97) 34 34 rfl (by simp) (by simp) hrun) ?_))
            clear g0
            have g0 : u11.cell? ⟨b2, off2 + j * 2 + 1, none⟩ = some (.int .i64 (x2 : Nat)) := (HB11.out.cell (block_lt_of_cell T1.out)).trans T1.out
            have cy8 : u11.cell? ⟨mb, 8, none⟩ = some (.slice (some ⟨b2, off2, none⟩) rn rcp) := by rw [cell_blkR HK11x1.out]; rfl
            have Hc12x0 := Lib.hid (rnum_any x2 u11 y2)
            go_wp2_with fail
            refine Hc12x0.out.mono ?_
            rintro e w12x0 ⟨v12x0, rfl, ho12x0, hb12x0⟩
            obtain ⟨q12x0, hq12x0⟩ : ∃ q, q = (encN x2).length := ⟨_, rfl⟩
            have hz12x0 := ho12x0
            rw [OwnBs, ← hq12x0] at hz12x0
            obtain ⟨qa12x0, qc12x0, rfl⟩ := own_slice hz12x0
            clear hz12x0 Hc12x0 hq12x0
            have hbel12' := hb12x0
            have hown12 := ho12x0
            obtain ⟨a12, n12, c12, u12, hrun, hO12, hB12, hK12⟩ := app_step HO11.out HB11.out hbel12' hown12 (by have := Hl11.out; have := encN_le x2; omega)
            obtain ⟨L12, hL12⟩ : ∃ q, q = L11 ++ encN x2 := ⟨_, rfl⟩
            have HL12 := Lib.hid hL12
            have Hl12 : Hid (L12.length ≤ 70000+10+10) := Lib.hid (by rw [hL12, List.length_append]; have := Hl11.out; have := encN_le x2; omega)
            rw [← hL12] at hO12
            have HO12 := Lib.hid hO12
            have HB12 := Lib.hid hB12
            have HK12x0 := Lib.hid (hK12 _ _ _ _ HK11x0.out (by decide))
            have HK12x1 := Lib.hid (hK12 _ _ _ _ HK11x1.out (by decide))
            clear hO12 hB12 hK12 hL12 hbel12' hown12 ho12x0 hb12x0 cy8
            go_wp2_with (at_builtin; first | (refine wpList_val rfl _ _ (run_append_op (.tmp 99) (.tmp 106) 34 34 rfl rfl rfl hrun) ?_) | (refine wpList_val rfl _ _ (run_append_op (.tmp 99) (.tmp 106) 34 34 rfl (by simp) (by simp) hrun) ?_))
            go_roundw
            case rel =>
              refine ⟨j + 1, by omega, by go_num, ?_, HB12.out, HK12x0.out, HK12x1.out⟩
              rw [show L10 ++ encRq rs (j + 1) = L12 by rw [HL12.out, HL11.out, HLY.out, encRq, take_flatE _ Hpj.out, ← encRq]; unfold encRf; simp only [Int.toNat_natCast, List.append_assoc]]
              exact HO12.out
            case measure => simp [intOf]; omega
          · have hnl : ¬ ((j : Int) < (rn : Int)) := by omega
            have cy0 : wp.cell? ⟨mb, 8, none⟩ = some (.slice ra rn rcp) := by rw [cell_blkR HMY.out]; rfl
            obtain rfl : j = rn := by omega
            go_wp2_with fail
            go_roundw
            case rel =>
              refine ⟨k + 1, by omega, by go_num, ?_, HBY.out, HRY.out⟩
              rw [show L4 ++ encQ ad (k + 1) = LY by rw [HLY.out, HL10.out, HL9.out, HL8.out, HL7.out, HL6.out, HL5.out, HLX.out, encQ, take_flatE _ Hpk.out, ← encQ, encRq, Hrn.out, List.take_length]; unfold encP txtB; simp only [Int.toNat_natCast, List.append_assoc]; try rw [Hrn.out]]
              exact HOY.out
            case measure => simp [intOf]; omega
      · obtain rfl : k = na := by omega
        have e0 : wo.cell? ⟨rb, 3, none⟩ = some (.slice aa k ac) := by rw [cell_blkR HRX.out]; rfl
        go_wp2_with fail
        go_ret
        refine ⟨_, rfl, ?_, HBX.out⟩
        rw [show ER = LX by rw [HER.out, HLX.out, HL4.out, HL3.out, HL2.out, HL1.out, encQ, Hna.out, List.take_length]]
        exact HOX.out
end Go.Proofs.Ythjjelomlgmllaa.Tithe
namespace Go.Proofs.Ythjjelomlgmllaa.Tithe
open Go.RowKit Go.Sort Go.Shelf
set_option linter.unusedVariables false
set_option linter.unusedSimpArgs false
set_option maxRecDepth 100000
theorem seenI_hit {l : List Int} {z k : Nat} : ∀ {n : Nat}, k < n → z = (l.getD k 0).toNat → seenI l n z = true
  | n + 1, hk, hz => by
    unfold seenI
    by_cases e : z = (l.getD n 0).toNat
    · rw [if_pos e]
    · rw [if_neg e]
      exact seenI_hit (n := n) (by
        rcases Nat.lt_or_ge k n with q | q
        · exact q
        · exfalso; obtain rfl : k = n := by omega
          exact e hz) hz
theorem nodI_le {l : List Int} : ∀ {n m : Nat}, m ≤ n → nodI l n = true → nodI l m = true
  | 0, m, hm, h => by obtain rfl : m = 0 := by omega
                      exact h
  | n + 1, m, hm, h => by
    rcases Nat.lt_or_ge n m with q | q
    · obtain rfl : m = n + 1 := by omega
      exact h
    · unfold nodI at h
      rw [Bool.and_eq_true] at h
      exact nodI_le q h.1
theorem plsOk_le {l : List (Int × Mr)} : ∀ {n m : Nat}, m ≤ n → plsOk l n = true → plsOk l m = true
  | 0, m, hm, h => by obtain rfl : m = 0 := by omega
                      exact h
  | n + 1, m, hm, h => by
    rcases Nat.lt_or_ge n m with q | q
    · obtain rfl : m = n + 1 := by omega
      exact h
    · unfold plsOk at h
      rw [Bool.and_eq_true] at h
      exact plsOk_le q h.1
attribute [local go_sem] Oper.semAt_some
set_option maxHeartbeats 6400000 in
theorem right16_any (wh : Bool) (s : Int) (vl va vd : Value) (ls : List Int) (ad : List (Int × Mr)) (dr : List Int) (w : World) (hl : IsZs w vl ls) (hd : IsZs w vd dr) (ha : IsPl w va ad) (hrl : ∀ p ∈ ad, p.2.1.refs.length ≤ 1000000) (hrs : ∀ p ∈ ad, p.2.1.a.u.size ≤ maxLen ∧ p.2.1.b.u.size ≤ maxLen) :
    Calls Try.prog 13 #[.agg #[.bool wh, .int .i64 s, vl, va, vd]] w fun e w' => e = .returned (.bool (recOk ⟨wh, s, ls, ad, dr⟩)) ∧ Below w.heap.size w w' := by
  obtain ⟨H, hH⟩ : ∃ H, H = recHead ⟨wh, s, ls, ad, dr⟩ := ⟨_, rfl⟩
  have HH := Lib.hid hH
  have hE : Hid (recOk ⟨wh, s, ls, ad, dr⟩ = (H && nodI ls ls.length && plsOk ad ad.length)) := Lib.hid (by rw [hH]; rfl)
  generalize recOk ⟨wh, s, ls, ad, dr⟩ = E at hE ⊢
  have HE := hE
  clear hH hE
  obtain ⟨la, lc, rfl, -, -, -⟩ := id hl
  obtain ⟨da, dc, rfl, -, -, -⟩ := id hd
  obtain ⟨aa, ac, rfl, -, -, -⟩ := id ha.1
  obtain ⟨nl, hnl⟩ : ∃ q, q = ls.length := ⟨_, rfl⟩
  obtain ⟨nd, hnd⟩ : ∃ q, q = dr.length := ⟨_, rfl⟩
  obtain ⟨na, hna⟩ : ∃ q, q = ad.length := ⟨_, rfl⟩
  have Hnl := Lib.hid hnl
  have Hnd := Lib.hid hnd
  have Hna := Lib.hid hna
  rw [← hnl] at hl HE ⊢
  rw [← hnd] at hd ⊢
  rw [← hna] at ha HE ⊢
  obtain ⟨-, -, -, hlx⟩ := hl.at
  obtain ⟨-, -, -, hax⟩ := ha.1.at
  have Hlx := Lib.hid hlx
  have Hax := Lib.hid hax
  have HL := Lib.hid hl
  have HD := Lib.hid hd
  have HA := Lib.hid ha
  have HR := Lib.hid hrl
  have HU := Lib.hid hrs
  clear hnl hnd hna hl hd ha hlx hax hrl hrs
  go_enter Try.func13, Try.ntmps13
  go_upto_region 1 with fail
  have hA1 : Below w.heap.size w (w.alloc (.cells #[.bool wh, .int .i64 s, .slice la nl lc, .slice aa na ac, .slice da nd dc] 32)) := (Below.refl _ _).alloc (Nat.le_refl _) _
  have HB := Lib.hid (blk_of_alloc w (.cells #[.bool wh, .int .i64 s, .slice la nl lc, .slice aa na ac, .slice da nd dc] 32))
  have HA1 := Lib.hid hA1
  have Hz1 := Lib.hid (zones16_any _ ls _ (HL.out.below hA1))
  have Hz2 := Lib.hid (zones16_any _ dr _ (HD.out.below hA1))
  obtain ⟨rb, hrb⟩ : ∃ q, q = w.heap.size := ⟨_, rfl⟩
  rw [← hrb] at HB ⊢
  clear hA1 hrb HL HD
  generalize w.alloc (.cells #[.bool wh, .int .i64 s, .slice la nl lc, .slice aa na ac, .slice da nd dc] 32) = W at *
  have b1 : W.cell? ⟨rb, 1, none⟩ = some (.int .i64 s) := by rw [cell_blkR HB.out]; rfl
  have b2 : W.cell? ⟨rb, 2, none⟩ = some (.slice la nl lc) := by rw [cell_blkR HB.out]; rfl
  have b3 : W.cell? ⟨rb, 3, none⟩ = some (.slice aa na ac) := by rw [cell_blkR HB.out]; rfl
  have b4 : W.cell? ⟨rb, 4, none⟩ = some (.slice da nd dc) := by rw [cell_blkR HB.out]; rfl
  by_cases h1 : s < 0
  · have hd1 : decide (s < 0) = true := decide_eq_true h1
    have Hf : Hid (E = false) := Lib.hid (by rw [HE.out, HH.out]; unfold recHead seqOk; simp; omega)
    go_wp2_with fail
    go_ret
    exact ⟨by rw [Hf.out]; rfl, HA1.out⟩
  have hd1 : decide (s < 0) = false := decide_eq_false h1
  by_cases h2 : 1099511627776 < s
  · have hd2 : decide (1099511627776 < s) = true := decide_eq_true h2
    have hd3 : decide (s > 1099511627776) = true := decide_eq_true h2
    have Hf : Hid (E = false) := Lib.hid (by rw [HE.out, HH.out]; unfold recHead seqOk; simp; omega)
    go_wp2_with fail
    go_ret
    exact ⟨by rw [Hf.out]; rfl, HA1.out⟩
  have hd2 : decide (1099511627776 < s) = false := decide_eq_false h2
  have hd3 : decide (s > 1099511627776) = false := decide_eq_false h2
  have hsq : seqOk s = true := by unfold seqOk; simp; omega
  have Hsq := Lib.hid hsq
  clear hsq
  cases h3 : zsOk ls with
  | false =>
    have Hz := Hz1
    rw [h3] at Hz
    have Hf : Hid (E = false) := Lib.hid (by rw [HE.out, HH.out]; unfold recHead; dsimp only; rw [h3, Bool.and_false]; rfl)
    clear Hz1 h3
    go_wp2_with fail
    refine Hz.out.mono ?_
    rintro e w2 ⟨rfl, rfl⟩
    go_wp2_with fail
    go_ret
    exact ⟨by rw [Hf.out]; rfl, HA1.out⟩
  | true =>
    have Hz := Hz1
    rw [h3] at Hz
    have H3 := Lib.hid h3
    clear Hz1 h3
    cases h4 : zsOk dr with
    | false =>
      have Hy := Hz2
      rw [h4] at Hy
      have Hf : Hid (E = false) := Lib.hid (by rw [HE.out, HH.out]; unfold recHead; dsimp only; rw [h4, Bool.and_false]; rfl)
      clear Hz2 h4
      go_wp2_with fail
      refine Hz.out.mono ?_
      rintro e w2 ⟨rfl, rfl⟩
      go_wp2_with fail
      refine Hy.out.mono ?_
      rintro e w3 ⟨rfl, rfl⟩
      go_wp2_with fail
      go_ret
      exact ⟨by rw [Hf.out]; rfl, HA1.out⟩
    | true =>
      have Hy := Hz2
      rw [h4] at Hy
      have H4 := Lib.hid h4
      clear Hz2 h4
      by_cases h5 : 64 < na
      · have hd5 : decide ((64 : Int) < (na : Int)) = true := decide_eq_true (by omega)
        have hd6 : decide ((na : Int) > 64) = true := decide_eq_true (by omega)
        have Hf : Hid (E = false) := Lib.hid (by rw [HE.out, HH.out]; unfold recHead; dsimp only; rw [← Hna.out, decide_eq_false (show ¬ na ≤ 64 by omega), Bool.and_false]; rfl)
        go_wp2_with fail
        refine Hz.out.mono ?_
        rintro e w2 ⟨rfl, rfl⟩
        go_wp2_with fail
        refine Hy.out.mono ?_
        rintro e w3 ⟨rfl, rfl⟩
        go_wp2_with fail
        go_ret
        exact ⟨by rw [Hf.out]; rfl, HA1.out⟩
      have hd5 : decide ((64 : Int) < (na : Int)) = false := decide_eq_false (by omega)
      have hd6 : decide ((na : Int) > 64) = false := decide_eq_false (by omega)
      have HE2 : Hid (E = (nodI ls nl && plsOk ad na)) := Lib.hid (by
        rw [HE.out, HH.out]; unfold recHead; dsimp only
        rw [H3.out, H4.out, Hsq.out, ← Hna.out, decide_eq_true (show na ≤ 64 by omega)]; rfl)
      have Hzz : Hid (∀ z ∈ ls, 0 ≤ z ∧ z < 64) := Lib.hid (zsOk_is H3.out).1
      have hn64 : nl ≤ 64 := by rw [Hnl.out]; exact (zsOk_is H3.out).2
      clear HE HH Hsq H4
      go_wp2_with fail
      refine Hz.out.mono ?_
      rintro e w2 ⟨rfl, rfl⟩
      go_wp2_with fail
      refine Hy.out.mono ?_
      rintro e w3 ⟨rfl, rfl⟩
      go_wp2_with fail
      go_loopw [3] (fun iv wr => ∃ k : Nat, k ≤ nl ∧ iv = .int .i64 k ∧ nodI ls k = true ∧ Below w.heap.size w wr ∧ wr.heap[rb]? = some (.cells #[.bool wh, .int .i64 s, .slice la nl lc, .slice aa na ac, .slice da nd dc] 32 (0, 0))) (fun i _ => nl - (intOf i).toNat)
      case atStart => exact ⟨0, Nat.zero_le _, rfl, rfl, HA1.out, HB.out⟩
      case round =>
        clear b1 b2 b3 b4
        obtain ⟨k, hk, rfl, hn, hbo, hbp⟩ := hrel
        obtain ⟨wo, rfl⟩ : ∃ wo : World, wo = wr := ⟨_, rfl⟩
        have Hn := Lib.hid hn
        have HBO := Lib.hid hbo
        have HBP := Lib.hid hbp
        have b2 : wo.cell? ⟨rb, 2, none⟩ = some (.slice la nl lc) := by rw [cell_blkR HBP.out]; rfl
        clear hn hbo hbp
        by_cases hkn : k < nl
        · have hlt : (k : Int) < (nl : Int) := by omega
          obtain ⟨b, off, rfl, hcell⟩ := Hlx.out (by omega)
          obtain ⟨z, hzk⟩ : ∃ z, ls[k]? = some z := ⟨_, List.getElem?_eq_getElem (by rw [← Hnl.out]; exact hkn)⟩
          have hzz := Hzz.out z (List.mem_of_getElem? hzk)
          obtain ⟨z, rfl⟩ : ∃ y : Nat, z = y := ⟨z.toNat, by omega⟩
          have c0 := IsZs.row hcell hzk
          have hg : (ls.getD k 0).toNat = z := by rw [List.getD_eq_getElem?_getD, hzk]; rfl
          have Hg := Lib.hid hg
          have Hcell := Lib.hid hcell
          clear hg hzk hcell hzz
          have C0 := Lib.hid c0
          clear c0
          go_wp2_with fail
          go_loopw [4] (fun iv wr => ∃ j : Nat, j ≤ k ∧ iv = .int .i64 j ∧ seenI ls j z = false ∧ Below w.heap.size w wr ∧ wr.heap[rb]? = some (.cells #[.bool wh, .int .i64 s, .slice (some ⟨b, off, none⟩) nl lc, .slice aa na ac, .slice da nd dc] 32 (0, 0))) (fun i _ => k - (intOf i).toNat)
          case atStart => exact ⟨0, Nat.zero_le _, rfl, rfl, HBO.out, HBP.out⟩
          case round =>
            clear b2
            obtain ⟨j, hj, rfl, hs, hbo, hbp⟩ := hrel
            obtain ⟨wp, rfl⟩ : ∃ wp : World, wp = wr := ⟨_, rfl⟩
            have Hs := Lib.hid hs
            have HBJ := Lib.hid hbo
            have HBQ := Lib.hid hbp
            have b2 : wp.cell? ⟨rb, 2, none⟩ = some (.slice (some ⟨b, off, none⟩) nl lc) := by rw [cell_blkR HBQ.out]; rfl
            have d0 := (HBJ.out.cell (block_lt_of_cell C0.out)).trans C0.out
            clear hs hbo hbp
            by_cases hjk : j < k
            · have hltj : (j : Int) < (k : Int) := by omega
              have hltn : (j : Int) < (nl : Int) := by omega
              obtain ⟨y, hyj⟩ : ∃ y, ls[j]? = some y := ⟨_, List.getElem?_eq_getElem (by rw [← Hnl.out]; omega)⟩
              have hyy := Hzz.out y (List.mem_of_getElem? hyj)
              obtain ⟨y, rfl⟩ : ∃ q : Nat, y = q := ⟨y.toNat, by omega⟩
              have c1 := IsZs.row Hcell.out hyj
              have d1 := (HBJ.out.cell (block_lt_of_cell c1)).trans c1
              have hgj : (ls.getD j 0).toNat = y := by rw [List.getD_eq_getElem?_getD, hyj]; rfl
              have Hgj := Lib.hid hgj
              clear hgj hyj c1 hyy
              by_cases hq : z = y
              · have hq1 : (z : Int) = (y : Int) := by omega
                have hq2 : decide ((z : Int) = (y : Int)) = true := decide_eq_true hq1
                have Hf : Hid (E = false) := Lib.hid (by
                  rw [HE2.out]
                  cases hh : nodI ls nl with
                  | false => rfl
                  | true =>
                    have h8 := nodI_le (show k + 1 ≤ nl by omega) hh
                    unfold nodI at h8
                    rw [Bool.and_eq_true, Hg.out, seenI_hit hjk (by rw [Hgj.out]; exact hq)] at h8
                    exact absurd h8.2 (by simp))
                subst hq
                go_upto_region 9 with fail
                go_still (by kernel_rfl)
                go_wp2_with fail
                go_ret
                exact ⟨by rw [Hf.out]; rfl, HBJ.out.drew⟩
              · have hq1 : ¬ (z : Int) = (y : Int) := by omega
                have hq2 : decide ((z : Int) = (y : Int)) = false := decide_eq_false hq1
                have Hs2 : Hid (seenI ls (j + 1) z = false) := Lib.hid (by unfold seenI; rw [Hgj.out, if_neg hq]; exact Hs.out)
                go_upto_region 9 with fail
                go_still (by kernel_rfl)
                go_wp2_with fail
                go_roundw
                case rel => exact ⟨j + 1, by omega, by go_num, Hs2.out, HBJ.out.drew, HBQ.out⟩
                case measure => simp [intOf]; omega
            · obtain rfl : j = k := by omega
              have hltj : ¬ (j : Int) < (j : Int) := by omega
              have Hn2 : Hid (nodI ls (j + 1) = true) := Lib.hid (by unfold nodI; rw [Hn.out, Hg.out, Hs.out]; rfl)
              go_wp2_with fail
              go_roundw
              case rel => exact ⟨j + 1, by omega, by go_num, Hn2.out, HBJ.out, HBQ.out⟩
              case measure => simp [intOf]; omega
        · have hlt : ¬ (k : Int) < (nl : Int) := by omega
          obtain rfl : k = nl := by omega
          have HE3 : Hid (E = plsOk ad na) := Lib.hid (by rw [HE2.out, Hn.out]; rfl)
          clear HE2
          have b3 : wo.cell? ⟨rb, 3, none⟩ = some (.slice aa na ac) := by rw [cell_blkR HBP.out]; rfl
          go_wp2_with fail
          go_loopw [5] (fun iv wr => ∃ i : Nat, i ≤ na ∧ iv = .int .i64 i ∧ plsOk ad i = true ∧ Below w.heap.size w wr ∧ wr.heap[rb]? = some (.cells #[.bool wh, .int .i64 s, .slice la k lc, .slice aa na ac, .slice da nd dc] 32 (0, 0))) (fun i _ => na - (intOf i).toNat)
          case atStart => exact ⟨0, Nat.zero_le _, rfl, rfl, HBO.out, HBP.out⟩
          case round =>
            obtain ⟨i, hi, rfl, hp, hbw, hbr⟩ := hrel
            have Hp := Lib.hid hp
            have Hbw := Lib.hid hbw
            have Hbr := Lib.hid hbr
            clear hp hbw hbr b2 b3
            obtain ⟨wo, rfl⟩ : ∃ wo : World, wo = wr := ⟨_, rfl⟩
            have b3 : wo.cell? ⟨rb, 3, none⟩ = some (.slice aa na ac) := by rw [cell_blkR Hbr.out]; rfl
            by_cases hin : i < na
            · have hlti : (i : Int) < (na : Int) := by omega
              obtain ⟨b, off, rfl, hcell⟩ := Hax.out (by omega)
              obtain ⟨⟨lv, ⟨⟨mz, mn, ka, kb, refs⟩, vr⟩⟩, hzk⟩ : ∃ z, ad[i]? = some z := ⟨_, List.getElem?_eq_getElem (by rw [← Hna.out]; exact hin)⟩
              have hg : ad.getD i (0, Mr.nil) = (lv, ⟨⟨mz, mn, ka, kb, refs⟩, vr⟩) := by rw [List.getD_eq_getElem?_getD, hzk]; rfl
              have Hpk : Hid (plsOk ad (i + 1) = (decide (0 ≤ lv) && decide (lv < 4) && metaOk mz mn ka kb refs)) := Lib.hid (by show (plsOk ad i && plOk (ad.getD i (0, Mr.nil))) = _; rw [hg, Hp.out]; rfl)
              have hrr := HA.out.2 _ (List.mem_of_getElem? hzk)
              have hrl := HR.out _ (List.mem_of_getElem? hzk)
              have hus := HU.out _ (List.mem_of_getElem? hzk)
              dsimp only at hrr hrl hus
              obtain ⟨ra, rcp, rfl, -, -, -⟩ := id hrr
              obtain ⟨c0, c1, c2, c3, c4, c5, c6, c7, c8, c9⟩ := IsPl.row (w := wo) (fun i x hi y z hz => (Hbw.out.cell (block_lt_of_cell (hcell i x hi y z hz))).trans (hcell i x hi y z hz)) hzk
              have Hck := Lib.hid (right15_any mz mn ka kb (.slice ra refs.length rcp) refs wo (hrr.below Hbw.out) hrl hus.1 hus.2)
              dsimp only at c0 c1 c2 c3 c4 c5 c6 c7 c8 c9
              obtain ⟨rn, hrn⟩ : ∃ q, q = refs.length := ⟨_, rfl⟩
              rw [← hrn] at c9 Hck
              unfold metaV at Hck
              obtain ⟨mo, hmo⟩ : ∃ q, q = metaOk mz mn ka kb refs := ⟨_, rfl⟩
              rw [← hmo] at Hck Hpk
              have HEn : Hid (plsOk ad (i + 1) = false → E = false) := Lib.hid (fun h => by
                rw [HE3.out]
                cases hh : plsOk ad na with
                | false => rfl
                | true => rw [plsOk_le (show i + 1 ≤ na by omega) hh] at h; exact h)
              clear hzk hg hrr hrl hus hcell hrn hmo
              by_cases h0 : lv < 0
              · have d1 : decide (lv < 0) = true := decide_eq_true h0
                have Hf : Hid (E = false) := Lib.hid (HEn.out (by rw [Hpk.out, decide_eq_false (show ¬ 0 ≤ lv by omega)]; simp))
                go_wp2_with fail
                go_ret
                exact ⟨by rw [Hf.out]; rfl, Hbw.out⟩
              have d1 : decide (lv < 0) = false := decide_eq_false h0
              by_cases h4 : 3 < lv
              · have d2 : decide (3 < lv) = true := decide_eq_true h4
                have d3 : decide (lv > 3) = true := decide_eq_true h4
                have Hf : Hid (E = false) := Lib.hid (HEn.out (by rw [Hpk.out, decide_eq_false (show ¬ lv < 4 by omega)]; simp))
                go_wp2_with fail
                go_ret
                exact ⟨by rw [Hf.out]; rfl, Hbw.out⟩
              have d2 : decide (3 < lv) = false := decide_eq_false h4
              have d3 : decide (lv > 3) = false := decide_eq_false h4
              have hpk2 : plsOk ad (i + 1) = mo := by rw [Hpk.out, decide_eq_true (show 0 ≤ lv by omega), decide_eq_true (show lv < 4 by omega)]; simp
              have Hpk2 := Lib.hid hpk2
              clear hpk2 Hpk
              cases mo with
              | false =>
                have Hf : Hid (E = false) := Lib.hid (HEn.out Hpk2.out)
                go_wp2_with fail
                refine Hck.out.mono ?_
                rintro e w5 ⟨rfl, hb5⟩
                have HB5 := Lib.hid (Hbw.out.trans (hb5.mono Hbw.out.size))
                clear hb5
                go_wp2_with fail
                go_ret
                exact ⟨by rw [Hf.out]; rfl, HB5.out⟩
              | true =>
                go_wp2_with fail
                refine Hck.out.mono ?_
                rintro e w5 ⟨rfl, hb5⟩
                have HB5 := Lib.hid (Hbw.out.trans (hb5.mono Hbw.out.size))
                have HR5 := Lib.hid (blk_bels hb5 Hbr.out)
                clear hb5
                go_wp2_with fail
                go_roundw
                case rel => exact ⟨i + 1, by omega, by go_num, Hpk2.out, HB5.out, HR5.out⟩
                case measure => simp [intOf]; omega
            · have hlti : ¬ (i : Int) < (na : Int) := by omega
              obtain rfl : i = na := by omega
              have Hf : Hid (E = true) := Lib.hid (by rw [HE3.out, Hp.out])
              go_wp2_with fail
              go_ret
              exact ⟨by rw [Hf.out]; rfl, Hbw.out⟩
end Go.Proofs.Ythjjelomlgmllaa.Tithe
