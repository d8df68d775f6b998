/- The law MergeGroups, walked. -/
import Derived.Test.YtcgkpbhoiaeolaaMergeIs
namespace Go.Proofs.Ytcgkpbhoiaeolaa.Tithe
open Go.RowKit Go.Sort Go.Shelf
set_option linter.unusedVariables false
theorem asc_ext {l m : List It} (hl : Asc l) (hm : Asc m) (h : ∀ p, p ∈ l ↔ p ∈ m) : l = m := by
  unfold Asc at hl hm
  induction l generalizing m with
  | nil =>
    cases m with
    | nil => rfl
    | cons y m => exact absurd ((h y).2 (by simp)) (by simp)
  | cons x l ih =>
    cases m with
    | nil => exact absurd ((h x).1 (by simp)) (by simp)
    | cons y m =>
      rw [List.pairwise_cons] at hl hm
      have hxy : x = y := by
        rcases List.mem_cons.1 ((h x).1 (by simp)) with e | e
        · exact e
        · rcases List.mem_cons.1 ((h y).2 (by simp)) with e' | e'
          · exact e'.symm
          · have := hl.1 y e'; have := hm.1 x e; omega
      subst hxy
      congr 1
      refine ih hl.2 hm.2 fun p => ⟨fun hp => ?_, fun hp => ?_⟩
      · rcases List.mem_cons.1 ((h p).1 (by simp [hp])) with e | e
        · subst e; have := hl.1 p hp; omega
        · exact e
      · rcases List.mem_cons.1 ((h p).2 (by simp [hp])) with e | e
        · subst e; have := hm.1 p hp; omega
        · exact e
theorem one2_mem {a b : List It} (ha : Asc a) (hb : Asc b) (p : It) : p ∈ oneL [a, b] ↔ p ∈ a ∨ ((∀ z ∈ a, z.1 ≠ p.1) ∧ p ∈ b) := by
  rw [oneL_mem [a, b] (by intro r hr; simp at hr; rcases hr with rfl | rfl <;> assumption)]
  simp [FirstIn]
theorem one3_mem {a b c : List It} (ha : Asc a) (hb : Asc b) (hc : Asc c) (p : It) : p ∈ oneL [a, b, c] ↔ p ∈ a ∨ ((∀ z ∈ a, z.1 ≠ p.1) ∧ (p ∈ b ∨ ((∀ z ∈ b, z.1 ≠ p.1) ∧ p ∈ c))) := by
  rw [oneL_mem [a, b, c] (by intro r hr; simp at hr; rcases hr with rfl | rfl | rfl <;> assumption)]
  simp [FirstIn]
theorem one2_key {a b : List It} (ha : Asc a) (hb : Asc b) (K : Int) : (∀ z ∈ oneL [a, b], z.1 ≠ K) ↔ (∀ z ∈ a, z.1 ≠ K) ∧ (∀ z ∈ b, z.1 ≠ K) := by
  constructor
  · intro h
    have h1 : ∀ z ∈ a, z.1 ≠ K := fun z hz => h z ((one2_mem ha hb z).2 (.inl hz))
    refine ⟨h1, fun z hz e => ?_⟩
    exact h z ((one2_mem ha hb z).2 (.inr ⟨fun y hy => by rw [e]; exact h1 y hy, hz⟩)) e
  · rintro ⟨h1, h2⟩ z hz
    rcases (one2_mem ha hb z).1 hz with h | ⟨_, h⟩
    · exact h1 z h
    · exact h2 z h
theorem one_left {a b c : List It} (ha : Asc a) (hb : Asc b) (hc : Asc c) : oneL [a, b, c] = oneL [oneL [a, b], c] := by
  refine asc_ext (oneL_asc _) (oneL_asc _) fun p => ?_
  rw [one3_mem ha hb hc, one2_mem (oneL_asc _) hc, one2_mem ha hb, one2_key ha hb]
  constructor
  · rintro (h | ⟨h1, h | ⟨h2, h⟩⟩)
    · exact .inl (.inl h)
    · exact .inl (.inr ⟨h1, h⟩)
    · exact .inr ⟨⟨h1, h2⟩, h⟩
  · rintro ((h | ⟨h1, h⟩) | ⟨⟨h1, h2⟩, h⟩)
    · exact .inl h
    · exact .inr ⟨h1, .inl h⟩
    · exact .inr ⟨h1, .inr ⟨h2, h⟩⟩
theorem one_right {a b c : List It} (ha : Asc a) (hb : Asc b) (hc : Asc c) : oneL [a, b, c] = oneL [a, oneL [b, c]] := by
  refine asc_ext (oneL_asc _) (oneL_asc _) fun p => ?_
  rw [one3_mem ha hb hc, one2_mem ha (oneL_asc _), one2_mem hb hc]
theorem one_twice {a : List It} (ha : Asc a) : a = oneL [a, a] := by
  refine asc_ext ha (oneL_asc _) fun p => ?_
  rw [one2_mem ha ha]
  constructor
  · exact fun h => .inl h
  · rintro (h | ⟨_, h⟩) <;> exact h
theorem its_lit2 {W : World} {v1 v2 : Value} {l1 l2 : List It} (t : TypeId) (h1 : IsIt W v1 l1) (h2 : IsIt W v2 l2) : IsIts (W.alloc (.cells #[v1, v2] t)) (.slice (some ⟨W.heap.size, 0, none⟩) 2 2) [l1, l2] := by
  have hb : Below W.heap.size W (W.alloc (.cells #[v1, v2] t)) := (Below.refl _ _).alloc (Nat.le_refl _) _
  have k1 := h1.below hb
  have k2 := h2.below hb
  obtain ⟨a1, c1, rfl, -, -, -⟩ := h1
  obtain ⟨a2, c2, rfl, -, -, -⟩ := h2
  refine ⟨_, _, rfl, Nat.le_refl _, by decide, fun _ => ⟨_, _, rfl, fun i hi => ?_⟩⟩
  match i, hi with
  | 0, _ => exact ⟨_, _, _, by rw [World.cell?_alloc_mark]; rfl, k1⟩
  | 1, _ => exact ⟨_, _, _, by rw [World.cell?_alloc_mark]; rfl, k2⟩
theorem its_lit3 {W : World} {v1 v2 v3 : Value} {l1 l2 l3 : List It} (t : TypeId) (h1 : IsIt W v1 l1) (h2 : IsIt W v2 l2) (h3 : IsIt W v3 l3) : IsIts (W.alloc (.cells #[v1, v2, v3] t)) (.slice (some ⟨W.heap.size, 0, none⟩) 3 3) [l1, l2, l3] := by
  have hb : Below W.heap.size W (W.alloc (.cells #[v1, v2, v3] t)) := (Below.refl _ _).alloc (Nat.le_refl _) _
  have k1 := h1.below hb
  have k2 := h2.below hb
  have k3 := h3.below hb
  obtain ⟨a1, c1, rfl, -, -, -⟩ := h1
  obtain ⟨a2, c2, rfl, -, -, -⟩ := h2
  obtain ⟨a3, c3, rfl, -, -, -⟩ := h3
  refine ⟨_, _, rfl, Nat.le_refl _, by decide, fun _ => ⟨_, _, rfl, fun i hi => ?_⟩⟩
  match i, hi with
  | 0, _ => exact ⟨_, _, _, by rw [World.cell?_alloc_mark]; rfl, k1⟩
  | 1, _ => exact ⟨_, _, _, by rw [World.cell?_alloc_mark]; rfl, k2⟩
  | 2, _ => exact ⟨_, _, _, by rw [World.cell?_alloc_mark]; rfl, k3⟩
theorem oneL_len (ls : List (List It)) : ∀ o : List It, (ls.foldl oneRow o).length ≤ o.length + (ls.map List.length).sum := by
  induction ls with
  | nil => intro o; simp
  | cons r ls ih =>
    intro o
    rw [List.foldl_cons]
    have := ih (oneRow o r)
    have := oneRow_le r o
    simp only [List.map_cons, List.sum_cons]
    omega
theorem merge2_any (W : World) (v1 v2 : Value) (l1 l2 R : List It) (h1 : IsIt W v1 l1) (h2 : IsIt W v2 l2) (r1 : Asc l1) (r2 : Asc l2) (n1 : l1.length ≤ 1000) (n2 : l2.length ≤ 1000) (hR : R = oneL [l1, l2]) :
    Calls Try.prog 12 #[.slice (some ⟨W.heap.size, 0, none⟩) 2 2] (W.alloc (.cells #[v1, v2] 27)) fun e w' => ∃ ra rc, e = .returned (.tuple #[.slice ra R.length rc, .int .i64 0]) ∧ IsIt w' (.slice ra R.length rc) R ∧ Below W.heap.size W w' := by
  subst hR
  have hb : Below W.heap.size W (W.alloc (.cells #[v1, v2] 27)) := (Below.refl _ _).alloc (Nat.le_refl _) _
  have hlen := oneL_len [l1, l2] []
  refine (merge_yes _ [l1, l2] _ (its_lit2 _ h1 h2) (.inr ⟨_, _, _, rfl⟩) (by simp) (by simp [runsB, run_of_asc r1, run_of_asc r2]) (fun i hi => by
    match i, hi with
    | 0, _ => show l1.length ≤ _; omega
    | 1, _ => show l2.length ≤ _; omega) (by show (List.foldl oneRow [] [l1, l2]).length ≤ _; simp at hlen ⊢; omega)).mono ?_
  rintro e w' ⟨v', rfl, ho, hb'⟩
  have hi := isIt_own ho
  obtain ⟨ra, rc, rfl⟩ := own_slice ho
  exact ⟨ra, rc, rfl, hi, hb.trans (hb'.mono hb.size)⟩
theorem merge3_any (W : World) (v1 v2 v3 : Value) (l1 l2 l3 R : List It) (h1 : IsIt W v1 l1) (h2 : IsIt W v2 l2) (h3 : IsIt W v3 l3) (r1 : Asc l1) (r2 : Asc l2) (r3 : Asc l3) (n1 : l1.length ≤ 1000) (n2 : l2.length ≤ 1000) (n3 : l3.length ≤ 1000) (hR : R = oneL [l1, l2, l3]) :
    Calls Try.prog 12 #[.slice (some ⟨W.heap.size, 0, none⟩) 3 3] (W.alloc (.cells #[v1, v2, v3] 27)) fun e w' => ∃ ra rc, e = .returned (.tuple #[.slice ra R.length rc, .int .i64 0]) ∧ IsIt w' (.slice ra R.length rc) R ∧ Below W.heap.size W w' := by
  subst hR
  have hb : Below W.heap.size W (W.alloc (.cells #[v1, v2, v3] 27)) := (Below.refl _ _).alloc (Nat.le_refl _) _
  have hlen := oneL_len [l1, l2, l3] []
  refine (merge_yes _ [l1, l2, l3] _ (its_lit3 _ h1 h2 h3) (.inr ⟨_, _, _, rfl⟩) (by simp) (by simp [runsB, run_of_asc r1, run_of_asc r2, run_of_asc r3]) (fun i hi => by
    match i, hi with
    | 0, _ => show l1.length ≤ _; omega
    | 1, _ => show l2.length ≤ _; omega
    | 2, _ => show l3.length ≤ _; omega) (by show (List.foldl oneRow [] [l1, l2, l3]).length ≤ _; simp at hlen ⊢; omega)).mono ?_
  rintro e w' ⟨v', rfl, ho, hb'⟩
  have hi := isIt_own ho
  obtain ⟨ra, rc, rfl⟩ := own_slice ho
  exact ⟨ra, rc, rfl, hi, hb.trans (hb'.mono hb.size)⟩
theorem neq_self (x y : Int) (W : World) : (binOp .neq 42 (.agg #[.int .i64 x, .int .i64 y]) (.agg #[.int .i64 x, .int .i64 y])).run Try.prog W = .ok (.bool false) W := by
  go_simp
set_option maxRecDepth 100000 in
set_option maxHeartbeats 1600000 in
theorem groups_yes (a1 a2 a3 : Option Addr) (c1 c2 c3 : Nat) (la lb lc : List It) (w : World) (hx : IsIt w (.slice a1 la.length c1) la) (hy : IsIt w (.slice a2 lb.length c2) lb) (hz : IsIt w (.slice a3 lc.length c3) lc) (hs : smallI [la, lb, lc] = true) (hr : runsB [la, lb, lc] = true) :
    Calls Try.prog 5 #[.slice a1 la.length c1, .slice a2 lb.length c2, .slice a3 lc.length c3] w fun e w' => e = .returned (.bool true) ∧ Below w.heap.size w w' := by
  have Hx := Lib.hid hx
  have Hy := Lib.hid hy
  have Hz := Lib.hid hz
  obtain ⟨-, h40⟩ := smallI_iff hs
  have na : la.length ≤ 40 := h40 0 (by simp)
  have nb : lb.length ≤ 40 := h40 1 (by simp)
  have nc : lc.length ≤ 40 := h40 2 (by simp)
  have hrr : ∀ r ∈ [la, lb, lc], runB r = true := by unfold runsB at hr; rw [List.all_eq_true] at hr; exact hr
  have Ra := Lib.hid (asc_of_run (hrr la (by simp)))
  have Rb := Lib.hid (asc_of_run (hrr lb (by simp)))
  have Rc := Lib.hid (asc_of_run (hrr lc (by simp)))
  have its0 := its_lit3 31 hx hy hz
  have hb0 : Below w.heap.size w (w.alloc (.cells #[.slice a1 la.length c1, .slice a2 lb.length c2, .slice a3 lc.length c3] 31)) := (Below.refl _ _).alloc (Nat.le_refl _) _
  have its1 := its_lit3 31 (hx.below hb0) (hy.below hb0) (hz.below hb0)
  have hsm := small_any _ _ _ its0
  rw [hs] at hsm
  have hru := runs_any _ _ _ its1
  rw [hr] at hru
  rw [World.size_alloc] at hru
  have Hsm := Lib.hid hsm
  have Hru := Lib.hid hru
  have Hb00 : Hid (∀ o o' : Obj, ∀ n, Below w.heap.size w (((w.alloc o).alloc o').drewN n)) := fun o o' n => below_drewN (((Below.refl _ _).alloc (Nat.le_refl _) _).alloc (by simp) _) n
  obtain ⟨AB, HAB'⟩ : ∃ AB, AB = oneL [la, lb] := ⟨_, rfl⟩
  obtain ⟨BC, HBC'⟩ : ∃ BC, BC = oneL [lb, lc] := ⟨_, rfl⟩
  obtain ⟨ABC, HABC'⟩ : ∃ ABC, ABC = oneL [la, lb, lc] := ⟨_, rfl⟩
  have HABC1 : Hid (ABC = oneL [AB, lc]) := by show _ = _; rw [HABC', HAB']; exact one_left Ra.out Rb.out Rc.out
  have HABC2 : Hid (ABC = oneL [la, BC]) := by show _ = _; rw [HABC', HBC']; exact one_right Ra.out Rb.out Rc.out
  have HAA : Hid (la = oneL [la, la]) := one_twice Ra.out
  have RAB : Hid (Asc AB) := by show Asc _; rw [HAB']; exact oneL_asc _
  have RBC : Hid (Asc BC) := by show Asc _; rw [HBC']; exact oneL_asc _
  have nab : AB.length ≤ 80 := by have := oneL_len [la, lb] []; rw [HAB']; unfold oneL; simp at this ⊢; omega
  have nbc : BC.length ≤ 80 := by have := oneL_len [lb, lc] []; rw [HBC']; unfold oneL; simp at this ⊢; omega
  have nabc : ABC.length ≤ 120 := by have := oneL_len [la, lb, lc] []; rw [HABC']; unfold oneL; simp at this ⊢; omega
  have HAB := Lib.hid HAB'
  have HBC := Lib.hid HBC'
  have HABC := Lib.hid HABC'
  clear HAB' HBC' HABC' hx hy hz hs hr h40 hrr its0 its1 hb0 hsm hru
  go_enter Try.func5, Try.ntmps5
  go_wp2_with fail
  refine Hsm.out.mono ?_
  rintro e w' ⟨rfl, rfl⟩
  go_wp2_with fail
  refine Hru.out.mono ?_
  rintro e w' ⟨rfl, nq, rfl⟩
  generalize hw1 : World.drewN _ nq = w1
  have B1 : Hid (Below w.heap.size w w1) := by show Below _ _ _; rw [← hw1]; exact Hb00.out _ _ nq
  clear hw1
  go_wp2_with fail
  refine (items_any _ la _ (Hx.out.below B1.out) (by omega)).mono ?_
  rintro e w2 ⟨vx, rfl, ho, hb⟩
  have Xx2 := Lib.hid (isIt_own ho)
  obtain ⟨ax, cx, rfl⟩ := own_slice ho
  have hbt : Below w.heap.size w w2 := B1.out.trans (hb.mono B1.out.size)
  have B2 := Lib.hid hbt
  clear ho hb hbt
  go_wp2_with fail
  refine (items_any _ lb _ (Hy.out.below B2.out) (by omega)).mono ?_
  rintro e w3 ⟨vy, rfl, ho, hb⟩
  have Xy3 := Lib.hid (isIt_own ho)
  obtain ⟨ay, cy, rfl⟩ := own_slice ho
  have Xx3 := Lib.hid (Xx2.out.below hb)
  have hbt : Below w.heap.size w w3 := B2.out.trans (hb.mono B2.out.size)
  have B3 := Lib.hid hbt
  clear ho hb hbt
  go_wp2_with fail
  refine (items_any _ lc _ (Hz.out.below B3.out) (by omega)).mono ?_
  rintro e w4 ⟨vz, rfl, ho, hb⟩
  have Xz4 := Lib.hid (isIt_own ho)
  obtain ⟨az, cz, rfl⟩ := own_slice ho
  have Xx4 := Lib.hid (Xx3.out.below hb)
  have Xy4 := Lib.hid (Xy3.out.below hb)
  have hbt : Below w.heap.size w w4 := B3.out.trans (hb.mono B3.out.size)
  have B4 := Lib.hid hbt
  clear ho hb hbt
  go_wp2_with fail
  refine (merge3_any _ _ _ _ la lb lc ABC Xx4.out Xy4.out Xz4.out Ra.out Rb.out Rc.out (by omega) (by omega) (by omega) HABC.out).mono ?_
  rintro e w5 ⟨aa, ca, rfl, ia, hb⟩
  have Xa5 := Lib.hid ia
  have Xx5 := Lib.hid (Xx4.out.below hb)
  have Xy5 := Lib.hid (Xy4.out.below hb)
  have Xz5 := Lib.hid (Xz4.out.below hb)
  have hbt : Below w.heap.size w w5 := B4.out.trans (hb.mono B4.out.size)
  have B5 := Lib.hid hbt
  clear ia hb hbt
  go_wp2_with fail
  refine (merge2_any _ _ _ la lb AB Xx5.out Xy5.out Ra.out Rb.out (by omega) (by omega) HAB.out).mono ?_
  rintro e w6 ⟨al, cl, rfl, il, hb⟩
  have Xl6 := Lib.hid il
  have Xx6 := Lib.hid (Xx5.out.below hb)
  have Xy6 := Lib.hid (Xy5.out.below hb)
  have Xz6 := Lib.hid (Xz5.out.below hb)
  have Xa6 := Lib.hid (Xa5.out.below hb)
  have hbt : Below w.heap.size w w6 := B5.out.trans (hb.mono B5.out.size)
  have B6 := Lib.hid hbt
  clear il hb hbt
  go_wp2_with fail
  refine (merge2_any _ _ _ AB lc ABC Xl6.out Xz6.out RAB.out Rc.out (by omega) (by omega) HABC1.out).mono ?_
  rintro e w7 ⟨am, cm, rfl, im, hb⟩
  have Xm7 := Lib.hid im
  have Xx7 := Lib.hid (Xx6.out.below hb)
  have Xy7 := Lib.hid (Xy6.out.below hb)
  have Xz7 := Lib.hid (Xz6.out.below hb)
  have Xa7 := Lib.hid (Xa6.out.below hb)
  have hbt : Below w.heap.size w w7 := B6.out.trans (hb.mono B6.out.size)
  have B7 := Lib.hid hbt
  clear im hb hbt
  go_wp2_with fail
  refine (merge2_any _ _ _ lb lc BC Xy7.out Xz7.out Rb.out Rc.out (by omega) (by omega) HBC.out).mono ?_
  rintro e w8 ⟨ar, cr, rfl, ir, hb⟩
  have Xr8 := Lib.hid ir
  have Xx8 := Lib.hid (Xx7.out.below hb)
  have Xy8 := Lib.hid (Xy7.out.below hb)
  have Xz8 := Lib.hid (Xz7.out.below hb)
  have Xa8 := Lib.hid (Xa7.out.below hb)
  have Xm8 := Lib.hid (Xm7.out.below hb)
  have hbt : Below w.heap.size w w8 := B7.out.trans (hb.mono B7.out.size)
  have B8 := Lib.hid hbt
  clear ir hb hbt
  go_wp2_with fail
  refine (merge2_any _ _ _ la BC ABC Xx8.out Xr8.out Ra.out RBC.out (by omega) (by omega) HABC2.out).mono ?_
  rintro e w9 ⟨aq, cq, rfl, iq, hb⟩
  have Xs9 := Lib.hid iq
  have Xx9 := Lib.hid (Xx8.out.below hb)
  have Xa9 := Lib.hid (Xa8.out.below hb)
  have Xm9 := Lib.hid (Xm8.out.below hb)
  have hbt : Below w.heap.size w w9 := B8.out.trans (hb.mono B8.out.size)
  have B9 := Lib.hid hbt
  clear iq hb hbt
  go_wp2_with fail
  refine (merge2_any _ _ _ la la la Xx9.out Xx9.out Ra.out Ra.out (by omega) (by omega) HAA.out).mono ?_
  rintro e w10 ⟨au, cu, rfl, iu, hb⟩
  have Xt10 := Lib.hid iu
  have Xx10 := Lib.hid (Xx9.out.below hb)
  have Xa10 := Lib.hid (Xa9.out.below hb)
  have Xm10 := Lib.hid (Xm9.out.below hb)
  have Xs10 := Lib.hid (Xs9.out.below hb)
  have hbt : Below w.heap.size w w10 := B9.out.trans (hb.mono B9.out.size)
  have B10 := Lib.hid hbt
  clear iu hb hbt
  go_wp2_with fail
  obtain ⟨N, hN⟩ : ∃ N, N = ABC.length := ⟨_, rfl⟩
  obtain ⟨n1, hn1⟩ : ∃ n1, n1 = la.length := ⟨_, rfl⟩
  obtain ⟨-, ha1, ha2, hax⟩ := Xa10.out.at
  have Hax := Lib.hid hax
  obtain ⟨-, hm1, hm2, hmx⟩ := Xm10.out.at
  have Hmx := Lib.hid hmx
  obtain ⟨-, hs1, hs2, hsx⟩ := Xs10.out.at
  have Hsx := Lib.hid hsx
  clear hax hmx hsx
  obtain ⟨-, hx1, hx2, hxx⟩ := Xx10.out.at
  have Hxx := Lib.hid hxx
  obtain ⟨-, ht1, ht2, htx⟩ := Xt10.out.at
  have Htx := Lib.hid htx
  clear hxx htx
  rw [← hN] at *
  rw [← hn1] at *
  go_loopw [105] (fun i wr => ∃ k : Nat, k ≤ N ∧ i = .int .i64 k ∧ ∃ d, wr = w10.drewN d) (fun i _ => N - (intOf i).toNat)
  case atStart => exact ⟨0, Nat.zero_le _, rfl, 0, rfl⟩
  case round =>
    obtain ⟨k, hk, rfl, d, rfl⟩ := hrel
    by_cases hkn : k < N
    · skip
      obtain ⟨ba, oa, rfl, ka⟩ := Hax.out (by omega)
      obtain ⟨ea1, ea2⟩ := ka k hkn
      obtain ⟨bm, om, rfl, km⟩ := Hmx.out (by omega)
      obtain ⟨em1, em2⟩ := km k hkn
      obtain ⟨bs, os, rfl, ks⟩ := Hsx.out (by omega)
      obtain ⟨es1, es2⟩ := ks k hkn
      clear ka km ks
      generalize ABC.getD k (0, 0) = q at *
      obtain ⟨qx, qy⟩ := q
      dsimp only at ea1 ea2 em1 em2 es1 es2
      have hne := fun W => neq_self qx qy W
      go_wp2
      go_quiet (fail)
      go_wp2
      go_roundw
      case rel => exact ⟨k + 1, by omega, by go_num, _, rfl⟩
      case measure => simp [intOf]; omega
    · obtain rfl : k = N := by omega
      go_wp2_with fail
      go_loopw [131] (fun i wr => ∃ k : Nat, k ≤ n1 ∧ i = .int .i64 k ∧ ∃ d, wr = w10.drewN d) (fun i _ => n1 - (intOf i).toNat)
      case atStart => exact ⟨0, Nat.zero_le _, rfl, d, rfl⟩
      case round =>
        obtain ⟨k, hk2, rfl, d, rfl⟩ := hrel
        by_cases hkn : k < n1
        · skip
          obtain ⟨bx, ox, rfl, kx⟩ := Hxx.out (by omega)
          obtain ⟨ex1, ex2⟩ := kx k hkn
          obtain ⟨bt, ot, rfl, kt⟩ := Htx.out (by omega)
          obtain ⟨et1, et2⟩ := kt k hkn
          clear kx kt
          generalize la.getD k (0, 0) = q at *
          obtain ⟨qx, qy⟩ := q
          dsimp only at ex1 ex2 et1 et2
          have hne := fun W => neq_self qx qy W
          go_wp2
          go_quiet (fail)
          go_wp2
          go_roundw
          case rel => exact ⟨k + 1, by omega, by go_num, _, rfl⟩
          case measure => simp [intOf]; omega
        · obtain rfl : k = n1 := by omega
          go_wp2_with fail
          refine (awake_any _).mono ?_
          rintro e w5 ⟨rfl, hb5⟩
          go_wp2
          go_ret
          exact ⟨rfl, B10.out.trans (((below_drewN (Below.refl _ _) _).trans hb5).mono B10.out.size)⟩
theorem groups_skip (a1 a2 a3 : Option Addr) (c1 c2 c3 : Nat) (la lb lc : List It) (w : World) (hx : IsIt w (.slice a1 la.length c1) la) (hy : IsIt w (.slice a2 lb.length c2) lb) (hz : IsIt w (.slice a3 lc.length c3) lc) (hs : smallI [la, lb, lc] = false ∨ (smallI [la, lb, lc] = true ∧ runsB [la, lb, lc] = false)) :
    Calls Try.prog 5 #[.slice a1 la.length c1, .slice a2 lb.length c2, .slice a3 lc.length c3] w fun e w' => e = .returned (.bool true) ∧ Below w.heap.size w w' := by
  have its0 := its_lit3 31 hx hy hz
  have hb0 : Below w.heap.size w (w.alloc (.cells #[.slice a1 la.length c1, .slice a2 lb.length c2, .slice a3 lc.length c3] 31)) := (Below.refl _ _).alloc (Nat.le_refl _) _
  have its1 := its_lit3 31 (hx.below hb0) (hy.below hb0) (hz.below hb0)
  have hsm := small_any _ _ _ its0
  have hru := runs_any _ _ _ its1
  rw [World.size_alloc] at hru
  have Hb00 : Hid (∀ o o' : Obj, ∀ n, Below w.heap.size w (((w.alloc o).alloc o').drewN n)) := fun o o' n => below_drewN (((Below.refl _ _).alloc (Nat.le_refl _) _).alloc (by simp) _) n
  have Hb01 := Lib.hid hb0
  clear hx hy hz its0 its1 hb0
  rcases hs with hs | ⟨hs, hr⟩
  · rw [hs] at hsm
    have Hsm := Lib.hid hsm
    clear hsm hru hs
    go_enter Try.func5, Try.ntmps5
    go_wp2_with fail
    refine Hsm.out.mono ?_
    rintro e w' ⟨rfl, rfl⟩
    go_wp2_with fail
    refine (awake_any _).mono ?_
    rintro e w5 ⟨rfl, hb5⟩
    go_wp2
    go_ret
    exact ⟨rfl, Hb01.out.trans (hb5.mono (by simp))⟩
  · rw [hs] at hsm
    rw [hr] at hru
    have Hsm := Lib.hid hsm
    have Hru := Lib.hid hru
    clear hsm hru hs hr
    go_enter Try.func5, Try.ntmps5
    go_wp2_with fail
    refine Hsm.out.mono ?_
    rintro e w' ⟨rfl, rfl⟩
    go_wp2_with fail
    refine Hru.out.mono ?_
    rintro e w' ⟨rfl, nq, rfl⟩
    generalize hw1 : World.drewN _ nq = w1
    have B1 : Hid (Below w.heap.size w w1) := by show Below _ _ _; rw [← hw1]; exact Hb00.out _ _ nq
    clear hw1
    go_wp2_with fail
    refine (awake_any _).mono ?_
    rintro e w5 ⟨rfl, hb5⟩
    go_wp2
    go_ret
    exact ⟨rfl, B1.out.trans (hb5.mono B1.out.size)⟩
theorem mergeGroups_walk (v1 : Value) (l1 : List It) (v2 : Value) (l2 : List It) (v3 : Value) (l3 : List It) (w : World) (h1 : IsIt w v1 l1) (h2 : IsIt w v2 l2) (h3 : IsIt w v3 l3) :
    Calls Try.prog 5 #[v1, v2, v3] w fun e w' => e = .returned (.bool true) ∧ Below w.heap.size w w' := by
  obtain ⟨a1, c1, rfl, -, -, -⟩ := id h1
  obtain ⟨a2, c2, rfl, -, -, -⟩ := id h2
  obtain ⟨a3, c3, rfl, -, -, -⟩ := id h3
  cases hs : smallI [l1, l2, l3] with
  | false => exact groups_skip a1 a2 a3 c1 c2 c3 l1 l2 l3 w h1 h2 h3 (.inl hs)
  | true =>
    cases hr : runsB [l1, l2, l3] with
    | false => exact groups_skip a1 a2 a3 c1 c2 c3 l1 l2 l3 w h1 h2 h3 (.inr ⟨hs, hr⟩)
    | true => exact groups_yes a1 a2 a3 c1 c2 c3 l1 l2 l3 w h1 h2 h3 hs hr
end Go.Proofs.Ytcgkpbhoiaeolaa.Tithe
