/- Find: the binary search. -/
import Derived.Test.YtcgkpbhoiaeolaaMerOne
namespace Go.Proofs.Ytcgkpbhoiaeolaa.Tithe
open Go.RowKit Go.Sort
set_option linter.unusedVariables false
theorem run_lt {l : List It} (h : runB l = true) : ∀ {i j : Nat}, i < j → j < l.length → (l.getD i (0, 0)).1 < (l.getD j (0, 0)).1 := by
  unfold runB at h
  have h' := of_decide_eq_true h
  intro i j hij
  induction j with
  | zero => omega
  | succ j ih =>
    intro hj
    have h1 := h' (j + 1) hj (by omega)
    rw [Nat.add_sub_cancel] at h1
    by_cases e : i = j
    · subst e; exact h1
    · have := ih (by omega) (by omega)
      omega
def cmpI (x y : Int) : Int := if x < y then -1 else if y < x then 1 else 0
theorem isNaN_any (x : Int) (w : World) : Calls Try.prog 45 #[.int .i64 x] w fun e w' => e = .returned (.bool false) ∧ w = w' := by
  have hx : (x != x) = false := by simp
  go_enter Try.func45, Try.ntmps45
  go_wp2
  go_ret
  exact ⟨rfl, rfl⟩
theorem compare_any (x y : Int) (w : World) : Calls Try.prog 34 #[.int .i64 x, .int .i64 y] w fun e w' => e = .returned (.int .i64 (cmpI x y)) ∧ w = w' := by
  have h : Hid (∀ z, z = cmpI x y → (if x < y then (-1 : Int) else if y < x then 1 else 0) = z) := fun z hz => hz.symm
  rcases (by omega : x < y ∨ (¬ x < y ∧ y < x) ∨ (¬ x < y ∧ ¬ y < x)) with h1 | ⟨h1, h2⟩ | ⟨h1, h2⟩
  · have hc : Hid (cmpI x y = -1) := by show _ = _; unfold cmpI; rw [if_pos h1]
    rw [hc.out]
    go_enter Try.func34, Try.ntmps34
    go_wp2_with fail
    refine (isNaN_any x w).mono ?_
    rintro e w' ⟨rfl, rfl⟩
    go_wp2_with fail
    refine (isNaN_any y w).mono ?_
    rintro e w' ⟨rfl, rfl⟩
    go_wp2
    go_ret
    exact ⟨rfl, rfl⟩
  · have hc : Hid (cmpI x y = 1) := by show _ = _; unfold cmpI; rw [if_neg h1, if_pos h2]
    rw [hc.out]
    go_enter Try.func34, Try.ntmps34
    go_wp2_with fail
    refine (isNaN_any x w).mono ?_
    rintro e w' ⟨rfl, rfl⟩
    go_wp2_with fail
    refine (isNaN_any y w).mono ?_
    rintro e w' ⟨rfl, rfl⟩
    go_wp2
    go_ret
    exact ⟨rfl, rfl⟩
  · have hc : Hid (cmpI x y = 0) := by show _ = _; unfold cmpI; rw [if_neg h1, if_neg h2]
    rw [hc.out]
    go_enter Try.func34, Try.ntmps34
    go_wp2_with fail
    refine (isNaN_any x w).mono ?_
    rintro e w' ⟨rfl, rfl⟩
    go_wp2_with fail
    refine (isNaN_any y w).mono ?_
    rintro e w' ⟨rfl, rfl⟩
    go_wp2
    go_ret
    exact ⟨rfl, rfl⟩
theorem find1_any (k x K : Int) (w : World) : Calls Try.prog 33 #[.agg #[.int .i64 k, .int .i64 x], .int .i64 K] w fun e w' => e = .returned (.int .i64 (cmpI k K)) ∧ Below w.heap.size w w' := by
  have hb : ∀ o : Obj, Below w.heap.size w (w.alloc o) := fun o => (Below.refl _ _).alloc (Nat.le_refl _) _
  have Hb := Lib.hid hb
  clear hb
  go_enter Try.func33, Try.ntmps33
  go_wp2_with fail
  refine (compare_any k K _).mono ?_
  rintro e w' ⟨rfl, rfl⟩
  go_wp2
  go_ret
  exact ⟨rfl, Hb.out _⟩
theorem bsf_any (v : Value) (l : List It) (K : Int) (w : World) (h : IsIt w v l) (hlen : l.length ≤ 1000000) (hrun : runB l = true) :
    Calls Try.prog 32 #[v, .int .i64 K, .func (.func 33) #[] #[]] w fun e w' => e = .returned (.tuple #[.int .i64 (ceilL l K : Nat), .bool (hasK l K)]) ∧ Below w.heap.size w w' := by
  obtain ⟨a, c, rfl, -, -, -⟩ := id h
  obtain ⟨-, hc, hm, hx⟩ := h.at
  have Hx := Lib.hid hx
  clear h hx
  obtain ⟨n, hn⟩ : ∃ n, n = l.length := ⟨_, rfl⟩
  rw [← hn] at hc Hx hlen ⊢
  have Hn := Lib.hid hn
  have Hlt : Hid (∀ {i j : Nat}, i < j → j < n → (l.getD i (0, 0)).1 < (l.getD j (0, 0)).1) := by rw [hn]; exact run_lt hrun
  clear hn hrun
  go_enter Try.func32, Try.ntmps32
  go_wp2
  go_loopw [9, 10] (fun i j wr => ∃ p q : Nat, p ≤ q ∧ q ≤ n ∧ i = .int .i64 p ∧ j = .int .i64 q ∧ (∀ t, t < p → (l.getD t (0, 0)).1 < K) ∧ (∀ t, q ≤ t → t < n → K ≤ (l.getD t (0, 0)).1) ∧ Below w.heap.size w wr) (fun i j _ => (intOf j).toNat - (intOf i).toNat)
  case atStart => exact ⟨0, n, Nat.zero_le _, Nat.le_refl _, rfl, rfl, fun t ht => by omega, fun t h1 h2 => by omega, Below.refl _ _⟩
  case round =>
    obtain ⟨p, q, hpq, hqn, rfl, rfl, hlo, hhi, hb⟩ := hrel
    have Hlo := Lib.hid hlo
    have Hhi := Lib.hid hhi
    clear hlo hhi
    by_cases hlt : p < q
    · obtain ⟨m, hmid, hpm, hmq⟩ : ∃ m : Nat, ((p : Int) + (q : Int)) / 2 = (m : Int) ∧ p ≤ m ∧ m < q := ⟨(p + q) / 2, by omega, by omega, by omega⟩
      obtain ⟨b, off, rfl, hcell⟩ := Hx.out (by omega)
      obtain ⟨c1, c2⟩ := hcell m (by omega)
      have d1 := (hb.cell (block_lt_of_cell c1)).trans c1
      have d2 := (hb.cell (block_lt_of_cell c2)).trans c2
      have Hlo2 : Hid ((l.getD m (0, 0)).1 < K → ∀ t, t < m + 1 → (l.getD t (0, 0)).1 < K) := by
        intro h t ht
        by_cases e : t = m
        · subst e; exact h
        · have := Hlt.out (i := t) (j := m) (by omega) (by omega); omega
      have Hhi2 : Hid (K ≤ (l.getD m (0, 0)).1 → ∀ t, m ≤ t → t < n → K ≤ (l.getD t (0, 0)).1) := by
        intro h t h1 h2
        by_cases e : t = m
        · subst e; exact h
        · have := Hlt.out (i := m) (j := t) (by omega) (by omega); omega
      generalize hq : l.getD m (0, 0) = q0 at *
      obtain ⟨x, y⟩ := q0
      replace d1 : wr.cell? ⟨b, off + m * 2, none⟩ = some (.int .i64 x) := d1
      replace d2 : wr.cell? ⟨b, off + m * 2 + 1, none⟩ = some (.int .i64 y) := d2
      have hcall := Lib.hid (find1_any x y K wr)
      have Hb := Lib.hid hb
      clear hcell c1 c2 hq hb
      by_cases hxK : x < K
      · have hz : cmpI x K = -1 := by unfold cmpI; rw [if_pos hxK]
        rw [hz] at hcall
        have Hn1 := Lib.hid (Hlo2.out hxK)
        clear hz
        go_wp2_with fail
        refine hcall.out.mono ?_
        rintro e w5 ⟨rfl, hb5⟩
        have hb6 := Hb.out.trans (hb5.mono Hb.out.size)
        clear hb5
        go_wp2
        go_roundw
        case rel => exact ⟨m + 1, q, by omega, by omega, by go_num, rfl, Hn1.out, Hhi.out, hb6⟩
        case measure => simp [intOf]; omega
      · have hz : (cmpI x K = 1 ∨ cmpI x K = 0) := by unfold cmpI; rw [if_neg hxK]; split <;> simp
        have Hn1 := Lib.hid (Hhi2.out (by show K ≤ x; omega))
        rcases hz with hz | hz
        all_goals
          rw [hz] at hcall
          clear hz
          go_wp2_with fail
          refine hcall.out.mono ?_
          rintro e w5 ⟨rfl, hb5⟩
          have hb6 := Hb.out.trans (hb5.mono Hb.out.size)
          clear hb5
          go_wp2
          go_roundw
          case rel => exact ⟨p, m, by omega, by omega, rfl, rfl, Hlo.out, Hn1.out, hb6⟩
          case measure => simp [intOf]; omega
    · obtain rfl : p = q := by omega
      by_cases hpn : p < n
      · obtain ⟨b, off, rfl, hcell⟩ := Hx.out (by omega)
        obtain ⟨c1, c2⟩ := hcell p (by omega)
        have d1 := (hb.cell (block_lt_of_cell c1)).trans c1
        have d2 := (hb.cell (block_lt_of_cell c2)).trans c2
        have hce : ceilL l K = p := ceil_at Hlo.out (by have := Hn.out; omega) (Hhi.out p (Nat.le_refl _) hpn)
        have hK := Hhi.out p (Nat.le_refl _) hpn
        have hha : (l.getD p (0, 0)).1 = K → hasK l K = true := fun h => has_at (by have := Hn.out; omega) h
        have hno : K < (l.getD p (0, 0)).1 → hasK l K = false := fun h => has_end fun j hj => by
          by_cases e : j < p
          · have := Hlo.out j e; omega
          · by_cases e2 : j = p
            · subst e2; omega
            · have := Hlt.out (i := p) (j := j) (by omega) (by have := Hn.out; omega); omega
        generalize hq : l.getD p (0, 0) = q0 at *
        obtain ⟨x, y⟩ := q0
        replace d1 : wr.cell? ⟨b, off + p * 2, none⟩ = some (.int .i64 x) := d1
        replace d2 : wr.cell? ⟨b, off + p * 2 + 1, none⟩ = some (.int .i64 y) := d2
        replace hK : K ≤ x := hK
        have hcall := Lib.hid (find1_any x y K wr)
        have Hb := Lib.hid hb
        have Hce := Lib.hid hce
        clear hcell c1 c2 hq hb hce
        by_cases hxK : x = K
        · have hz : cmpI x K = 0 := by unfold cmpI; rw [if_neg (by omega), if_neg (by omega)]
          rw [hz] at hcall
          have Hh := Lib.hid (hha hxK)
          clear hz hxK hha hno
          go_wp2_with fail
          refine hcall.out.mono ?_
          rintro e w5 ⟨rfl, hb5⟩
          have hb6 := Hb.out.trans (hb5.mono Hb.out.size)
          clear hb5
          go_wp2
          go_ret2
          exact ⟨by rw [Hce.out, Hh.out]; rfl, hb6⟩
        · have hz : cmpI x K = 1 := by unfold cmpI; rw [if_neg (by omega), if_pos (by omega)]
          rw [hz] at hcall
          have Hh := Lib.hid (hno (by show K < x; omega))
          clear hz hxK hha hno
          go_wp2_with fail
          refine hcall.out.mono ?_
          rintro e w5 ⟨rfl, hb5⟩
          have hb6 := Hb.out.trans (hb5.mono Hb.out.size)
          clear hb5
          go_wp2
          go_ret2
          exact ⟨by rw [Hce.out, Hh.out]; rfl, hb6⟩
      · obtain rfl : p = n := by omega
        have hce : ceilL l K = l.length := ceil_end fun j hj => Hlo.out j (by have := Hn.out; omega)
        have hh : hasK l K = false := has_end fun j hj => by have := Hlo.out j (by have := Hn.out; omega); omega
        rw [← Hn.out] at hce
        have Hce := Lib.hid hce
        have Hh := Lib.hid hh
        clear hce hh
        go_wp2
        go_ret2
        exact ⟨by rw [Hce.out, Hh.out]; rfl, hb⟩
theorem find_any (v : Value) (l : List It) (K : Int) (w : World) (h : IsIt w v l) (hlen : l.length ≤ 1000000) (hrun : runB l = true) :
    Calls Try.prog 18 #[v, .int .i64 K] w fun e w' => e = .returned (.tuple #[.int .i64 (ceilL l K : Nat), .bool (hasK l K)]) ∧ Below w.heap.size w w' := by
  have hcall := Lib.hid (bsf_any v l K w h hlen hrun)
  obtain ⟨a, c, rfl, -, -, -⟩ := id h
  clear h hlen hrun
  go_enter Try.func18, Try.ntmps18
  go_wp2_with fail
  refine hcall.out.mono ?_
  rintro e w5 ⟨rfl, hb5⟩
  go_wp2
  go_ret2
  exact ⟨rfl, hb5⟩
end Go.Proofs.Ytcgkpbhoiaeolaa.Tithe
