/- levels.Meta.Check: walked. -/
import Derived.Test.YthjjelomlgmllaaKeyCore
import Derived.Deep.DeepCutAuto
import Derived.Deep.CutBlock
import Derived.BigQuiet
import Derived.Lib.QuoteBits
namespace Go.Proofs.Ythjjelomlgmllaa.Tithe
open Go.RowKit Go.Sort
set_option linter.unusedVariables false
set_option maxRecDepth 100000
/-- a table's meta as a value -/
def metaV (z n : Int) (a b : Ky) (r : Value) : Value := .agg #[.int .i64 z, .int .i64 n, .string a.u, .int .i64 a.s, .int .i64 a.k, .string b.u, .int .i64 b.s, .int .i64 b.k, r]
def rfC (r : Int × Int) : List Value := [.int .i64 r.1, .int .i64 r.2]
theorem rfC_len (r : Int × Int) : (rfC r).length = 2 := rfl
abbrev IsRr (w : World) (v : Value) (l : List (Int × Int)) : Prop := IsSl rfC 2 w v l
def zoneOk (z : Int) : Bool := decide (0 ≤ z) && decide (z < 64)
theorem zone_any (z : Int) (w : World) : Calls Try.prog 70 #[.int .i64 z] w fun e w' => e = .returned (.bool (zoneOk z)) ∧ w' = w := by
  unfold zoneOk
  by_cases h : 0 ≤ z
  · have hd : decide (0 ≤ z) = true := by simp [h]
    go_enter Try.func70, Try.ntmps70
    go_wp2
    go_ret
    exact ⟨by first | (simp; done) | simp [h], rfl⟩
  · have hd : decide (0 ≤ z) = false := by simp [h]
    go_enter Try.func70, Try.ntmps70
    go_wp2
    go_ret
    exact ⟨by first | (simp; done) | simp [h], rfl⟩
/-- is a meta's head right? -/
def headOk (z n : Int) (a b : Ky) : Bool := zoneOk z && decide (1 ≤ n) && decide (n ≤ 65536) && okK a && okK b && decide (cmpK a b ≤ 0)
def refOk (l : List (Int × Int)) (k : Nat) : Bool :=
  zoneOk (l.getD k (0, 0)).1 && decide (1 ≤ (l.getD k (0, 0)).2) && decide ((l.getD k (0, 0)).2 ≤ 1073741824) && (decide (k = 0) || decide ((l.getD (k - 1) (0, 0)).1 < (l.getD k (0, 0)).1))
def refsOk (l : List (Int × Int)) : Nat → Bool
  | 0 => true
  | k + 1 => refsOk l k && refOk l k
def metaOk (z n : Int) (a b : Ky) (l : List (Int × Int)) : Bool := headOk z n a b && refsOk l l.length
def chkM (ok : Bool) : Int := if ok then 0 else 150
theorem bel_trans {a b c : World} {B : Nat} (h : Below B a b) (h2 : Below b.heap.size b c) (hB : B ≤ a.heap.size) : Below B a c := h.trans (h2.mono (Nat.le_trans hB h.size))
theorem grow_cell {B : Nat} {w w' : World} (hb : Below B w w') {b i : Nat} {v : Value} (hlt : b < B) (h : w.cell? ⟨b, i, none⟩ = some v) : w'.cell? ⟨b, i, none⟩ = some v := (hb.cell (p := ⟨b, i, none⟩) hlt).trans h
theorem grow_alloc {w : World} {b i : Nat} {v : Value} (h : w.cell? ⟨b, i, none⟩ = some v) (o : Obj) : (w.alloc o).cell? ⟨b, i, none⟩ = some v := by
  rw [World.cell?_alloc_lt _ _ _ (block_lt_of_cell h)]; exact h
theorem kcheck_yes {x : Ky} (h : okK x = true) (w : World) : Calls Try.prog 71 #[.agg #[.string x.u, .int .i64 x.s, .int .i64 x.k]] w fun e w' => e = .returned (.int .i64 0) ∧ Below w.heap.size w w' := by
  have := kcheck_any x w
  unfold chkK at this
  rw [h] at this
  exact this
theorem kcheck_no {x : Ky} (h : okK x = false) (w : World) : Calls Try.prog 71 #[.agg #[.string x.u, .int .i64 x.s, .int .i64 x.k]] w fun e w' => e = .returned (.int .i64 30) ∧ Below w.heap.size w w' := by
  have := kcheck_any x w
  unfold chkK at this
  rw [h] at this
  exact this
set_option maxHeartbeats 4000000 in
theorem lcheck_any (z n : Int) (a b : Ky) (vr : Value) (l : List (Int × Int)) (w : World) (h : IsRr w vr l) (hl : l.length ≤ 1000000) :
    Calls Try.prog 37 #[metaV z n a b vr] w fun e w' => e = .returned (.int .i64 (chkM (metaOk z n a b l))) ∧ Below w.heap.size w w' := by
  obtain ⟨va, c, rfl, -, -, -⟩ := id h
  obtain ⟨-, hc, hm, hx⟩ := h.at
  obtain ⟨m, hm2⟩ : ∃ m, m = l.length := ⟨_, rfl⟩
  unfold metaOk metaV
  rw [← hm2] at hx hc hl ⊢
  have Hx := Lib.hid hx
  have Hm2 := Lib.hid hm2
  clear h hx hm2
  obtain ⟨H, hH⟩ : ∃ H, H = headOk z n a b := ⟨_, rfl⟩
  rw [← hH]
  have HH := Lib.hid hH
  clear hH
  have hcmp := fun W => kcmp_any a b W
  unfold Ky.v at hcmp
  have Hcmp := Lib.hid hcmp
  have hzn := fun W => zone_any z W
  clear hcmp
  go_enter Try.func37, Try.ntmps37
  go_upto_region 1 with fail
  go_cut [3] (fun okv wc => okv = .bool H ∧ Below (w.heap.size + 1) (w.alloc (.cells #[.int .i64 z, .int .i64 n, .string a.u, .int .i64 a.s, .int .i64 a.k, .string b.u, .int .i64 b.s, .int .i64 b.k, .slice va m c] 78)) wc)
  case first =>
    have hbk : (w.alloc (.cells #[.int .i64 z, .int .i64 n, .string a.u, .int .i64 a.s, .int .i64 a.k, .string b.u, .int .i64 b.s, .int .i64 b.k, .slice va m c] 78)).heap[w.heap.size]? = some (.cells #[.int .i64 z, .int .i64 n, .string a.u, .int .i64 a.s, .int .i64 a.k, .string b.u, .int .i64 b.s, .int .i64 b.k, .slice va m c] 78 (0, 0)) := by
      show (w.heap.push _)[w.heap.size]? = _; rw [Array.getElem?_push_size]
    have hls : w.heap.size + 1 ≤ (w.alloc (.cells #[.int .i64 z, .int .i64 n, .string a.u, .int .i64 a.s, .int .i64 a.k, .string b.u, .int .i64 b.s, .int .i64 b.k, .slice va m c] 78)).heap.size := by rw [World.size_alloc]; omega
    generalize w.alloc (.cells #[.int .i64 z, .int .i64 n, .string a.u, .int .i64 a.s, .int .i64 a.k, .string b.u, .int .i64 b.s, .int .i64 b.k, .slice va m c] 78) = W at *
    have hcc := fun j => cell_of_row W w.heap.size j _ _ _ hbk
    have Hlt := Lib.hid (Array.getElem?_eq_some_iff.1 hbk).1
    have Hbk := Lib.hid hbk
    have Hls := Lib.hid hls
    clear hbk hls
    cases hz : zoneOk z with
    | false =>
      rw [hz] at hzn
      have hh : headOk z n a b = false := by unfold headOk; simp [hz]
      have Hh := Lib.hid hh
      clear hh
      go_wp2_with (first
        | (go_at_call 70; (with_reducible refine (hzn _).mono ?_); rintro e wz ⟨rfl, rfl⟩))
      go_meet
      case rel => exact ⟨by rw [HH.out, Hh.out], (Below.refl _ _)⟩
    | true =>
      rw [hz] at hzn
      by_cases h1 : 1 ≤ n
      rotate_left
      · have hd : decide (1 ≤ n) = false := by simp [h1]
        have hh : headOk z n a b = false := by unfold headOk; simp [h1]
        have Hh := Lib.hid hh
        clear hh
        go_wp2_with (first
        | (go_at_call 70; (with_reducible refine (hzn _).mono ?_); rintro e wz ⟨rfl, rfl⟩))
        go_meet
        case rel => exact ⟨by rw [HH.out, Hh.out], (Below.refl _ _)⟩
      by_cases h2 : n ≤ 65536
      rotate_left
      · have hd : decide (n ≤ 65536) = false := by simp [h2]
        have hh : headOk z n a b = false := by unfold headOk; simp [h2]
        have Hh := Lib.hid hh
        clear hh
        go_wp2_with (first
        | (go_at_call 70; (with_reducible refine (hzn _).mono ?_); rintro e wz ⟨rfl, rfl⟩))
        go_meet
        case rel => exact ⟨by rw [HH.out, Hh.out], (Below.refl _ _)⟩
      cases ha : okK a with
      | false =>
        have HA := Lib.hid (kcheck_no ha)
        have hh : headOk z n a b = false := by unfold headOk; simp [ha]
        have Hh := Lib.hid hh
        clear hh
        go_wp2_with (first
        | (go_at_call 70; (with_reducible refine (hzn _).mono ?_); rintro e wz ⟨rfl, rfl⟩)
        | (go_at_call 71; (with_reducible refine (HA.out _).mono ?_); rintro e w1 ⟨rfl, hb1⟩; have hk1 := (hb1.block _ Hlt.out).trans Hbk.out; have hl1 := (Array.getElem?_eq_some_iff.1 hk1).1; have hc1 := fun j => cell_of_row w1 w.heap.size j _ _ _ hk1; have Hk1 := Lib.hid hk1; have Hl1 := Lib.hid hl1; have B1 := Lib.hid (hb1.mono Hls.out); clear hk1 hl1 hb1))
        go_meet
        case rel => exact ⟨by rw [HH.out, Hh.out], B1.out⟩
      | true =>
        have HA := Lib.hid (kcheck_yes ha)
        cases hbk : okK b with
        | false =>
          have HB := Lib.hid (kcheck_no hbk)
          have hh : headOk z n a b = false := by unfold headOk; simp [hbk]
          have Hh := Lib.hid hh
          clear hh
          go_wp2_with (first
        | (go_at_call 70; (with_reducible refine (hzn _).mono ?_); rintro e wz ⟨rfl, rfl⟩)
        | (go_at_call 71; (with_reducible refine (HA.out _).mono ?_); rintro e w1 ⟨rfl, hb1⟩; have hk1 := (hb1.block _ Hlt.out).trans Hbk.out; have hl1 := (Array.getElem?_eq_some_iff.1 hk1).1; have hc1 := fun j => cell_of_row w1 w.heap.size j _ _ _ hk1; have Hk1 := Lib.hid hk1; have Hl1 := Lib.hid hl1; have B1 := Lib.hid (hb1.mono Hls.out); clear hk1 hl1 hb1)
        | (go_at_call 71; (with_reducible refine (HB.out _).mono ?_); rintro e w2 ⟨rfl, hb2⟩; have hk2 := (hb2.block _ Hl1.out).trans Hk1.out; have hl2 := (Array.getElem?_eq_some_iff.1 hk2).1; have hc2 := fun j => cell_of_row w2 w.heap.size j _ _ _ hk2; have B2 := Lib.hid (B1.out.trans (hb2.mono (Nat.le_trans Hls.out B1.out.size))); clear hk2 hl2 hb2))
          go_meet
          case rel => exact ⟨by rw [HH.out, Hh.out], B2.out⟩
        | true =>
          have HB := Lib.hid (kcheck_yes hbk)
          have HC := Hcmp
          by_cases h3 : cmpK a b ≤ 0
          · have hd : decide (cmpK a b ≤ 0) = true := by simp [h3]
            have hh : headOk z n a b = true := by unfold headOk; simp [hz, h1, h2, ha, hbk, h3]
            have Hh := Lib.hid hh
            clear hh
            go_wp2_with (first
        | (go_at_call 70; (with_reducible refine (hzn _).mono ?_); rintro e wz ⟨rfl, rfl⟩)
        | (go_at_call 71; (with_reducible refine (HA.out _).mono ?_); rintro e w1 ⟨rfl, hb1⟩; have hk1 := (hb1.block _ Hlt.out).trans Hbk.out; have hl1 := (Array.getElem?_eq_some_iff.1 hk1).1; have hc1 := fun j => cell_of_row w1 w.heap.size j _ _ _ hk1; have Hk1 := Lib.hid hk1; have Hl1 := Lib.hid hl1; have B1 := Lib.hid (hb1.mono Hls.out); clear hk1 hl1 hb1)
        | (go_at_call 71; (with_reducible refine (HB.out _).mono ?_); rintro e w2 ⟨rfl, hb2⟩; have hk2 := (hb2.block _ Hl1.out).trans Hk1.out; have hl2 := (Array.getElem?_eq_some_iff.1 hk2).1; have hc2 := fun j => cell_of_row w2 w.heap.size j _ _ _ hk2; have B2 := Lib.hid (B1.out.trans (hb2.mono (Nat.le_trans Hls.out B1.out.size))); clear hk2 hl2 hb2)
        | (go_at_call 56; (with_reducible refine (HC.out _).mono ?_); rintro e w3 ⟨rfl, hb3⟩; have B3 := Lib.hid (B2.out.trans (hb3.mono (Nat.le_trans Hls.out B2.out.size))); clear hb3))
            go_meet
            case rel => exact ⟨by rw [HH.out, Hh.out], B3.out⟩
          · have hd : decide (cmpK a b ≤ 0) = false := by simp [h3]
            have hh : headOk z n a b = false := by unfold headOk; simp [h3]
            have Hh := Lib.hid hh
            clear hh
            go_wp2_with (first
        | (go_at_call 70; (with_reducible refine (hzn _).mono ?_); rintro e wz ⟨rfl, rfl⟩)
        | (go_at_call 71; (with_reducible refine (HA.out _).mono ?_); rintro e w1 ⟨rfl, hb1⟩; have hk1 := (hb1.block _ Hlt.out).trans Hbk.out; have hl1 := (Array.getElem?_eq_some_iff.1 hk1).1; have hc1 := fun j => cell_of_row w1 w.heap.size j _ _ _ hk1; have Hk1 := Lib.hid hk1; have Hl1 := Lib.hid hl1; have B1 := Lib.hid (hb1.mono Hls.out); clear hk1 hl1 hb1)
        | (go_at_call 71; (with_reducible refine (HB.out _).mono ?_); rintro e w2 ⟨rfl, hb2⟩; have hk2 := (hb2.block _ Hl1.out).trans Hk1.out; have hl2 := (Array.getElem?_eq_some_iff.1 hk2).1; have hc2 := fun j => cell_of_row w2 w.heap.size j _ _ _ hk2; have B2 := Lib.hid (B1.out.trans (hb2.mono (Nat.le_trans Hls.out B1.out.size))); clear hk2 hl2 hb2)
        | (go_at_call 56; (with_reducible refine (HC.out _).mono ?_); rintro e w3 ⟨rfl, hb3⟩; have B3 := Lib.hid (B2.out.trans (hb3.mono (Nat.le_trans Hls.out B2.out.size))); clear hb3))
            go_meet
            case rel => exact ⟨by rw [HH.out, Hh.out], B3.out⟩
  case rest =>
    obtain ⟨rfl, hb⟩ := hcut
    have hbk : (w.alloc (.cells #[.int .i64 z, .int .i64 n, .string a.u, .int .i64 a.s, .int .i64 a.k, .string b.u, .int .i64 b.s, .int .i64 b.k, .slice va m c] 78)).heap[w.heap.size]? = some (.cells #[.int .i64 z, .int .i64 n, .string a.u, .int .i64 a.s, .int .i64 a.k, .string b.u, .int .i64 b.s, .int .i64 b.k, .slice va m c] 78 (0, 0)) := by
      show (w.heap.push _)[w.heap.size]? = _; rw [Array.getElem?_push_size]
    have hbc := (hb.block _ (Nat.lt_succ_self _)).trans hbk
    have hbw : Below w.heap.size w wc := ((Below.refl _ _).alloc (Nat.le_refl _) _).trans (hb.mono (Nat.le_succ _))
    have hcs : w.heap.size + 1 ≤ wc.heap.size := by have := hb.size; rw [World.size_alloc] at this; exact this
    have hc8 : wc.cell? ⟨w.heap.size, 8, none⟩ = some (.slice va m c) := (cell_of_row wc w.heap.size 8 _ _ _ hbc).trans rfl
    have Hc8 := Lib.hid hc8
    have Hbw := Lib.hid hbw
    have Hcs := Lib.hid hcs
    clear hbk hb hbc hbw hcs hzn Hcmp HH
    go_wp2
    go_loopw [3, 42] (fun okv i wr => ∃ k : Nat, k ≤ m ∧ i = .int .i64 k ∧ okv = .bool (H && refsOk l k) ∧ Below (w.heap.size + 1) wc wr) (fun _ i _ => m - (intOf i).toNat)
    case atStart => exact ⟨0, Nat.zero_le _, rfl, by simp [refsOk], Below.refl _ _⟩
    case round =>
      obtain ⟨wo, rfl⟩ : ∃ wo : World, wo = wr := ⟨_, rfl⟩
      obtain ⟨k, hk, rfl, rfl, hbr⟩ := hrel
      have Hbr := Lib.hid hbr
      have hb8 : wo.cell? ⟨w.heap.size, 8, none⟩ = some (.slice va m c) := grow_cell hbr (Nat.lt_succ_self _) Hc8.out
      clear hbr
      by_cases hkm : k < m
      rotate_left
      · obtain rfl : k = m := by omega
        cases hok : (H && refsOk l k) with
        | false =>
          have Hok := Lib.hid hok
          clear hok
          go_wp2
          go_ret
          exact ⟨by rw [Hok.out]; rfl, Hbw.out.trans (Hbr.out.mono (Nat.le_succ _))⟩
        | true =>
          have Hok := Lib.hid hok
          clear hok
          go_wp2
          go_ret
          exact ⟨by rw [Hok.out]; rfl, Hbw.out.trans (Hbr.out.mono (Nat.le_succ _))⟩
      obtain ⟨rb, off, rfl, hrow0⟩ := Hx.out (by omega)
      have hrow : ∀ (i : Nat) (x : Int × Int), l[i]? = some x → ∀ (j : Nat) (y : Value), (rfC x)[j]? = some y → wo.cell? ⟨rb, off + i * 2 + j, none⟩ = some y := fun i x hi j y hj =>
        grow_cell (Hbw.out.trans (Hbr.out.mono (Nat.le_succ _))) (block_lt_of_cell (hrow0 i x hi j y hj)) (hrow0 i x hi j y hj)
      obtain ⟨⟨x, y⟩, hxk⟩ : ∃ x, l[k]? = some x := ⟨_, List.getElem?_eq_getElem (by rw [← Hm2.out]; exact hkm)⟩
      have hg : l.getD k (0, 0) = (x, y) := by rw [List.getD_eq_getElem?_getD, hxk]; rfl
      have c0 := hrow k _ hxk 0 _ rfl
      have c1 := hrow k _ hxk 1 _ rfl
      rw [Nat.add_zero] at c0
      have Hrow := Lib.hid hrow
      have Hxk := Lib.hid hxk
      have hwr : k ≠ 0 → IntKind.i64.wrap ((k : Int) - 1) = (k : Int) - 1 := fun h0 => by
        have := Lib.wrap_i64_small (k - 1) (by omega)
        rw [Int.natCast_sub (by omega)] at this
        exact this
      have hj1 : ((k : Int) - 1).toNat = k - 1 := by omega
      clear hrow0 hrow hxk
      cases hok : (H && refsOk l k) with
      | false =>
        have hh : (H && refsOk l (k + 1)) = false := by
          show (H && (refsOk l k && refOk l k)) = false
          rw [← Bool.and_assoc, hok]; rfl
        have Hh := Lib.hid hh
        clear hh hg hok
        go_wp2_with fail
        go_quiet (fail)
        go_wp2
        go_roundw
        case rel => exact ⟨k + 1, by omega, by go_num, by rw [Hh.out], (Hbr.out.alloc (Nat.le_trans Hcs.out Hbr.out.size) _).trans (below_drewN (Below.refl _ _) _)⟩
        case measure => simp [intOf]; omega
      | true =>
        obtain ⟨hH, hr⟩ : H = true ∧ refsOk l k = true := by simpa using hok
        have hzx := fun W => zone_any x W
        cases hz : zoneOk x with
        | false =>
          rw [hz] at hzx
          have hh : (H && refsOk l (k + 1)) = false := by
            show (H && (refsOk l k && refOk l k)) = false
            unfold refOk; rw [hg]; simp [hz]
          have Hh := Lib.hid hh
          clear hh hg
          go_wp2_with fail
          go_quiet ((go_at_call 70; refine Calls.quiet_of_same (hzx _)))
          go_wp2
          go_roundw
          case rel => exact ⟨k + 1, by omega, by go_num, by rw [Hh.out], (Hbr.out.alloc (Nat.le_trans Hcs.out Hbr.out.size) _).trans (below_drewN (Below.refl _ _) _)⟩
          case measure => simp [intOf]; omega
        | true =>
          rw [hz] at hzx
          by_cases h1 : 1 ≤ y
          rotate_left
          · have hd : decide (1 ≤ y) = false := by simp [h1]
            have hh : (H && refsOk l (k + 1)) = false := by
              show (H && (refsOk l k && refOk l k)) = false
              unfold refOk; rw [hg]; simp [h1]
            have Hh := Lib.hid hh
            clear hh hg
            go_wp2_with fail
            go_quiet ((go_at_call 70; refine Calls.quiet_of_same (hzx _)))
            go_wp2
            go_roundw
            case rel => exact ⟨k + 1, by omega, by go_num, by rw [Hh.out], (Hbr.out.alloc (Nat.le_trans Hcs.out Hbr.out.size) _).trans (below_drewN (Below.refl _ _) _)⟩
            case measure => simp [intOf]; omega
          have hd1 : decide (1 ≤ y) = true := by simp [h1]
          by_cases h2 : y ≤ 1073741824
          rotate_left
          · have hd : decide (y ≤ 1073741824) = false := by simp [h2]
            have hh : (H && refsOk l (k + 1)) = false := by
              show (H && (refsOk l k && refOk l k)) = false
              unfold refOk; rw [hg]; simp [h2]
            have Hh := Lib.hid hh
            clear hh hg
            go_wp2_with fail
            go_quiet ((go_at_call 70; refine Calls.quiet_of_same (hzx _)))
            go_wp2
            go_roundw
            case rel => exact ⟨k + 1, by omega, by go_num, by rw [Hh.out], (Hbr.out.alloc (Nat.le_trans Hcs.out Hbr.out.size) _).trans (below_drewN (Below.refl _ _) _)⟩
            case measure => simp [intOf]; omega
          have hd2 : decide (y ≤ 1073741824) = true := by simp [h2]
          by_cases h3 : k = 0
          · subst h3
            have hk0 : decide (((0 : Nat) : Int) = 0) = true := rfl
            simp only [Nat.zero_mul, Nat.add_zero] at c0 c1
            have hh : (H && refsOk l (0 + 1)) = true := by
              show (H && (refsOk l 0 && refOk l 0)) = true
              unfold refOk; rw [hg]; simp [hH, hr, hz, h1, h2]
            have Hh := Lib.hid hh
            clear hh hg
            go_wp2_with fail
            go_quiet ((go_at_call 70; refine Calls.quiet_of_same (hzx _)))
            go_wp2
            go_roundw
            case rel => exact ⟨0 + 1, by omega, by go_num, by rw [Hh.out], (Hbr.out.alloc (Nat.le_trans Hcs.out Hbr.out.size) _).trans (below_drewN (Below.refl _ _) _)⟩
            case measure => simp [intOf]; omega
          have hk1 : ¬ (k : Int) = 0 := by omega
          have hk2 : decide ((k : Int) = 0) = false := decide_eq_false hk1
          obtain ⟨⟨px, py⟩, hpx⟩ : ∃ x, l[k - 1]? = some x := ⟨_, List.getElem?_eq_getElem (by rw [← Hm2.out]; omega)⟩
          have hgp : l.getD (k - 1) (0, 0) = (px, py) := by rw [List.getD_eq_getElem?_getD, hpx]; rfl
          have pc0 := Hrow.out (k - 1) _ hpx 0 _ rfl
          rw [Nat.add_zero] at pc0
          dsimp only at pc0
          have hw2 := hwr h3
          have hi1 : (1 : Int) ≤ (k : Int) := by omega
          have hi2 : (0 : Int) ≤ (k : Int) - 1 := by omega
          have hi3 : (k : Int) - 1 < (m : Int) := by omega
          have pc1 := fun o => grow_alloc pc0 o
          have pc8 := fun o => grow_alloc hb8 o
          have Hpx := Lib.hid hpx
          clear hpx
          by_cases h4 : px < x
          · have hd4 : decide (px < x) = true := by simp [h4]
            have hh : (H && refsOk l (k + 1)) = true := by
              show (H && (refsOk l k && refOk l k)) = true
              unfold refOk; rw [hg]; rw [hgp]; simp [hH, hr, hz, h1, h2, h3, h4]
            have Hh := Lib.hid hh
            clear hh hg hgp
            go_wp2_with fail
            go_quiet ((go_at_call 70; refine Calls.quiet_of_same (hzx _)))
            go_wp2
            go_roundw
            case rel => exact ⟨k + 1, by omega, by go_num, by rw [Hh.out], (Hbr.out.alloc (Nat.le_trans Hcs.out Hbr.out.size) _).trans (below_drewN (Below.refl _ _) _)⟩
            case measure => simp [intOf]; omega
          · have hd4 : decide (px < x) = false := by simp [h4]
            have hk9 : ((k : Int) == 0) = false := by simpa using h3
            have hh : (H && refsOk l (k + 1)) = false := by
              show (H && (refsOk l k && refOk l k)) = false
              unfold refOk; rw [hg]; rw [hgp]; simp [h3, h4]
            have Hh := Lib.hid hh
            clear hh hg hgp
            go_wp2_with fail
            go_quiet ((go_at_call 70; refine Calls.quiet_of_same (hzx _)))
            go_wp2
            go_roundw
            case rel => exact ⟨k + 1, by omega, by go_num, by rw [Hh.out], (Hbr.out.alloc (Nat.le_trans Hcs.out Hbr.out.size) _).trans (below_drewN (Below.refl _ _) _)⟩
            case measure => simp [intOf]; omega
end Go.Proofs.Ythjjelomlgmllaa.Tithe
