/- The law MergeIs, walked. -/
import Derived.Test.YtcgkpbhoiaeolaaMerAwake
namespace Go.Proofs.Ytcgkpbhoiaeolaa.Tithe
open Go.RowKit Go.Sort Go.Shelf
set_option linter.unusedVariables false
theorem one_le (ls : List (List It)) (h : ∀ i, i < ls.length → (ls.getD i []).length ≤ 40) : (oneL ls).length ≤ 40 * ls.length := by
  have main : ∀ k, k ≤ ls.length → (oneL (ls.take k)).length ≤ 40 * k := by
    intro k
    induction k with
    | zero => intro _; simp [oneL]
    | succ k ih =>
      intro hk
      rw [oneL_take (by omega)]
      have := oneRow_le (ls.getD k []) (oneL (ls.take k))
      have := h k (by omega)
      have := ih (by omega)
      omega
  have := main ls.length (Nat.le_refl _)
  rwa [List.take_length] at this
theorem is_no (a : Option Addr) (c : Nat) (ls : List (List It)) (w : World) (h : IsIts w (.slice a ls.length c) ls) (hs : smallI ls = true) (hr : runsB ls = false) :
    Calls Try.prog 3 #[.slice a ls.length c] w fun e w' => e = .returned (.bool true) ∧ Below w.heap.size w w' := by
  have H := Lib.hid h
  obtain ⟨-, hc, hm, hx⟩ := h.at
  obtain ⟨h10, h40⟩ := smallI_iff hs
  have Hs := Lib.hid hs
  have Hr := Lib.hid hr
  have H40 := Lib.hid h40
  have Hx := Lib.hid hx
  clear h hs hr h40 hx
  go_enter Try.func3, Try.ntmps3
  go_wp2_with fail
  refine (small_any _ ls w H.out).mono ?_
  rintro e w' ⟨rfl, rfl⟩
  rw [Hs.out]
  go_wp2_with fail
  refine (all_any _ ls w H.out (by omega) (fun i hi => by have := H40.out i hi; omega)).mono ?_
  rintro e w2 ⟨iv, rfl, hits, hnil, hb2⟩
  have Hits := Lib.hid hits
  have Hnil := Lib.hid hnil
  have Hb2 := Lib.hid hb2
  have hw2 := hb2.size
  obtain ⟨ia, ic, rfl, -, -, -⟩ := id hits
  clear hits hnil hb2
  go_wp2_with fail
  refine (merge_no _ ls w2 Hits.out Hnil.out (by omega) Hr.out).mono ?_
  rintro e w3 ⟨rfl, hb3⟩
  have hits3 := Hits.out.below hb3
  obtain ⟨-, hic, him, hix⟩ := hits3.at
  have Hix := Lib.hid hix
  have hb3' : Below w.heap.size w w3 := Hb2.out.trans (hb3.mono hw2)
  have Hb3 := Lib.hid hb3'
  have hw3 := hb3'.size
  clear hits3 hix hb3 hb3'
  go_wp2_with fail
  go_loopw [21] (fun i wr => ∃ k : Nat, k ≤ ls.length ∧ i = .int .i64 k ∧ ∃ d, wr = w3.drewN d) (fun i _ => ls.length - (intOf i).toNat)
  case atStart => exact ⟨0, Nat.zero_le _, rfl, 0, rfl⟩
  case round =>
    obtain ⟨k, hk, rfl, d, rfl⟩ := hrel
    have hbd : Below w3.heap.size w3 (w3.drewN d) := below_drewN (Below.refl _ _) d
    by_cases hlt : k < ls.length
    · obtain ⟨b, off, rfl, hcell⟩ := Hx.out (by omega)
      obtain ⟨ka, kn, kc, c1, hrow⟩ := hcell k hlt
      obtain ⟨b2, off2, rfl, hcell2⟩ := Hix.out (by omega)
      obtain ⟨ja, jn, jc, c2, hrow2⟩ := hcell2 k hlt
      have d1 := (Hb3.out.cell (block_lt_of_cell c1)).trans c1
      have hr1 := hrow.below Hb3.out
      have Hr1 := Lib.hid hr1
      have Hr2 := Lib.hid hrow2
      clear hcell hcell2 c1 hrow hrow2 hr1
      generalize ls.getD k [] = r at *
      have HC := fun d => check_any _ r (w3.drewN d) (Hr2.out.below (below_drewN (Below.refl _ _) d))
      have HR := fun d => run_any _ r (w3.drewN d) (Hr1.out.below (below_drewN (Below.refl _ _) d))
      have HS := fun d => same_true _ _ r (w3.drewN d) (Hr2.out.below (below_drewN (Below.refl _ _) d)) (Hr1.out.below (below_drewN (Below.refl _ _) d))
      have hz : (runB r = true ∧ chkE r = 0) ∨ (runB r = false ∧ chkE r = 31) := by
        cases q : runB r with
        | true => exact .inl ⟨rfl, chkE_yes q⟩
        | false => exact .inr ⟨rfl, chkE_no q⟩
      rcases hz with ⟨z1, z2⟩ | ⟨z1, z2⟩
      all_goals
        rw [z2] at HC
        rw [z1] at HR
        have HC' := Lib.hid HC
        have HR' := Lib.hid HR
        have HS' := Lib.hid HS
        clear z1 z2 HC HR HS
        go_wp2_with fail
        refine (HC'.out d).mono ?_
        rintro e w' ⟨rfl, n1, rfl⟩
        go_wp2_with fail
        refine (HR'.out (d + n1)).mono ?_
        rintro e w' ⟨rfl, n2, rfl⟩
        go_wp2_with fail
        refine (HS'.out (d + n1 + n2)).mono ?_
        rintro e w' ⟨rfl, n3, rfl⟩
        go_wp2
        go_roundw
        case rel => exact ⟨k + 1, by omega, by go_num, _, rfl⟩
        case measure => simp [intOf]; omega
    · obtain rfl : k = ls.length := by omega
      have HRs := runs_any _ ls (w3.drewN d) (H.out.below (Hb3.out.trans (hbd.mono hw3)))
      rw [Hr.out] at HRs
      have HRs' := Lib.hid HRs
      clear HRs
      go_wp2_with fail
      refine HRs'.out.mono ?_
      rintro e w' ⟨rfl, n1, rfl⟩
      go_wp2_with fail
      refine (awake_any _).mono ?_
      rintro e w5 ⟨rfl, hb5⟩
      go_wp2
      go_ret
      exact ⟨rfl, Hb3.out.trans (((below_drewN (Below.refl _ _) _).trans hb5).mono hw3)⟩
theorem is_yes (a : Option Addr) (c : Nat) (ls : List (List It)) (w : World) (h : IsIts w (.slice a ls.length c) ls) (hs : smallI ls = true) (hr : runsB ls = true) :
    Calls Try.prog 3 #[.slice a ls.length c] w fun e w' => e = .returned (.bool true) ∧ Below w.heap.size w w' := by
  have H := Lib.hid h
  obtain ⟨-, hc, hm, hx⟩ := h.at
  obtain ⟨h10, h40⟩ := smallI_iff hs
  have Hs := Lib.hid hs
  have Hr := Lib.hid hr
  have H40 := Lib.hid h40
  have Hx := Lib.hid hx
  clear h hs hr h40 hx
  go_enter Try.func3, Try.ntmps3
  go_wp2_with fail
  refine (small_any _ ls w H.out).mono ?_
  rintro e w' ⟨rfl, rfl⟩
  rw [Hs.out]
  go_wp2_with fail
  refine (all_any _ ls w H.out (by omega) (fun i hi => by have := H40.out i hi; omega)).mono ?_
  rintro e w2 ⟨iv, rfl, hits, hnil, hb2⟩
  have Hits := Lib.hid hits
  have Hnil := Lib.hid hnil
  have Hb2 := Lib.hid hb2
  have hw2 := hb2.size
  obtain ⟨ia, ic, rfl, -, -, -⟩ := id hits
  clear hits hnil hb2
  go_wp2_with fail
  refine (merge_yes _ ls w2 Hits.out Hnil.out (by omega) Hr.out (fun i hi => by have := H40.out i hi; omega) (by have := one_le ls H40.out; omega)).mono ?_
  rintro e w3 ⟨lv, rfl, hown, hb3⟩
  have Hl3 := Lib.hid (isIt_own hown)
  obtain ⟨la, lc, rfl⟩ := own_slice hown
  clear hown
  have hits3 := Hits.out.below hb3
  obtain ⟨-, hic, him, hix⟩ := hits3.at
  have Hix := Lib.hid hix
  have hb3' : Below w.heap.size w w3 := Hb2.out.trans (hb3.mono hw2)
  have Hb3 := Lib.hid hb3'
  have hw3 := hb3'.size
  clear hits3 hix hb3 hb3'
  go_wp2_with fail
  go_loopw [21] (fun i wr => ∃ k : Nat, k ≤ ls.length ∧ i = .int .i64 k ∧ ∃ d, wr = w3.drewN d) (fun i _ => ls.length - (intOf i).toNat)
  case atStart => exact ⟨0, Nat.zero_le _, rfl, 0, rfl⟩
  case round =>
    obtain ⟨k, hk, rfl, d, rfl⟩ := hrel
    have hbd : Below w3.heap.size w3 (w3.drewN d) := below_drewN (Below.refl _ _) d
    by_cases hlt : k < ls.length
    · obtain ⟨b, off, rfl, hcell⟩ := Hx.out (by omega)
      obtain ⟨ka, kn, kc, c1, hrow⟩ := hcell k hlt
      obtain ⟨b2, off2, rfl, hcell2⟩ := Hix.out (by omega)
      obtain ⟨ja, jn, jc, c2, hrow2⟩ := hcell2 k hlt
      have d1 := (Hb3.out.cell (block_lt_of_cell c1)).trans c1
      have hr1 := hrow.below Hb3.out
      have Hr1 := Lib.hid hr1
      have Hr2 := Lib.hid hrow2
      clear hcell hcell2 c1 hrow hrow2 hr1
      generalize ls.getD k [] = r at *
      have HC := fun d => check_any _ r (w3.drewN d) (Hr2.out.below (below_drewN (Below.refl _ _) d))
      have HR := fun d => run_any _ r (w3.drewN d) (Hr1.out.below (below_drewN (Below.refl _ _) d))
      have HS := fun d => same_true _ _ r (w3.drewN d) (Hr2.out.below (below_drewN (Below.refl _ _) d)) (Hr1.out.below (below_drewN (Below.refl _ _) d))
      have hz : (runB r = true ∧ chkE r = 0) ∨ (runB r = false ∧ chkE r = 31) := by
        cases q : runB r with
        | true => exact .inl ⟨rfl, chkE_yes q⟩
        | false => exact .inr ⟨rfl, chkE_no q⟩
      rcases hz with ⟨z1, z2⟩ | ⟨z1, z2⟩
      all_goals
        rw [z2] at HC
        rw [z1] at HR
        have HC' := Lib.hid HC
        have HR' := Lib.hid HR
        have HS' := Lib.hid HS
        clear z1 z2 HC HR HS
        go_wp2_with fail
        refine (HC'.out d).mono ?_
        rintro e w' ⟨rfl, n1, rfl⟩
        go_wp2_with fail
        refine (HR'.out (d + n1)).mono ?_
        rintro e w' ⟨rfl, n2, rfl⟩
        go_wp2_with fail
        refine (HS'.out (d + n1 + n2)).mono ?_
        rintro e w' ⟨rfl, n3, rfl⟩
        go_wp2
        go_roundw
        case rel => exact ⟨k + 1, by omega, by go_num, _, rfl⟩
        case measure => simp [intOf]; omega
    · obtain rfl : k = ls.length := by omega
      have HRs := runs_any _ ls (w3.drewN d) (H.out.below (Hb3.out.trans (hbd.mono hw3)))
      rw [Hr.out] at HRs
      have HRs' := Lib.hid HRs
      clear HRs
      go_wp2_with fail
      refine HRs'.out.mono ?_
      rintro e w' ⟨rfl, n1, rfl⟩
      have hbe : Below w3.heap.size w3 (w3.drewN (d + n1)) := below_drewN (Below.refl _ _) _
      have hbw : Below w.heap.size w (w3.drewN (d + n1)) := Hb3.out.trans (hbe.mono hw3)
      have Hl4 := Lib.hid (Hl3.out.below hbe)
      have Hone := Lib.hid (one_any _ ls _ (H.out.below hbw) (by omega) (fun i hi => by have := H40.out i hi; omega))
      have Hbw := Lib.hid hbw
      clear hbe hbw
      go_wp2_with fail
      refine Hone.out.mono ?_
      rintro e w4 ⟨ov, rfl, ho4, hb4⟩
      have Ho4 := Lib.hid (isIt_own ho4)
      have Hl5 := Lib.hid (Hl4.out.below hb4)
      have hb4' : Below w.heap.size w w4 := Hbw.out.trans (hb4.mono hw3)
      have Hb4 := Lib.hid hb4'
      have hw4 := hb4'.size
      obtain ⟨oa, oc, rfl⟩ := own_slice ho4
      clear ho4 hb4 hb4' Hone
      go_wp2_with fail
      refine (same_true _ _ (oneL ls) w4 Hl5.out Ho4.out).mono ?_
      rintro e w' ⟨rfl, n2, rfl⟩
      have Hchk := check_any _ (oneL ls) (w4.drewN n2) (Hl5.out.below (below_drewN (Below.refl _ _) n2))
      rw [chkE_yes (run_of_asc (oneL_asc ls))] at Hchk
      have Hchk' := Lib.hid Hchk
      clear Hchk
      go_wp2_with fail
      refine Hchk'.out.mono ?_
      rintro e w' ⟨rfl, n3, rfl⟩
      go_wp2_with fail
      refine (awake_any _).mono ?_
      rintro e w5 ⟨rfl, hb5⟩
      go_wp2
      go_ret
      exact ⟨rfl, Hb4.out.trans (((below_drewN (Below.refl _ _) _).trans hb5).mono hw4)⟩
theorem mergeIs_walk (v : Value) (ls : List (List It)) (w : World) (h : IsIts w v ls) :
    Calls Try.prog 3 #[v] w fun e w' => e = .returned (.bool true) ∧ Below w.heap.size w w' := by
  obtain ⟨a, c, rfl, -, -, -⟩ := id h
  cases hs : smallI ls with
  | false =>
    have H := Lib.hid h
    have Hs := Lib.hid hs
    clear h hs
    go_enter Try.func3, Try.ntmps3
    go_wp2_with fail
    refine (small_any _ ls w H.out).mono ?_
    rintro e w' ⟨rfl, rfl⟩
    rw [Hs.out]
    go_wp2_with fail
    refine (awake_any w).mono ?_
    rintro e w' ⟨rfl, hb⟩
    go_wp2
    go_ret
    exact ⟨rfl, hb⟩
  | true =>
    cases hr : runsB ls with
    | false => exact is_no a c ls w h hs hr
    | true => exact is_yes a c ls w h hs hr
end Go.Proofs.Ytcgkpbhoiaeolaa.Tithe
