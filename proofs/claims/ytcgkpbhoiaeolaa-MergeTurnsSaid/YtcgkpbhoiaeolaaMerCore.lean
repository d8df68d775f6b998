/- Items in memory; the small walks of chapter 06. -/
import Derived.Test.YtcgkpbhoiaeolaaRows
import Derived.WalkKit
import Derived.ProofKit
import Derived.OpenShut
import Derived.Lib.Hide
import Derived.Outline
import Derived.OwnWalk
import Derived.Deep.AppendLies
import Derived.Deep.QuietTactic
import Derived.Lib.QuietBelow
import Derived.BigQuiet
import Derived.WalkLawsBesides
namespace Go.Proofs.Ytcgkpbhoiaeolaa.Tithe
open Go.RowKit Go.Sort
set_option linter.unusedVariables false
abbrev It := Int × Int
/-- a slice of items that reads as a list of pairs -/
def IsIt (w : World) (v : Value) (l : List It) : Prop :=
  ∃ a c, v = .slice a l.length c ∧ l.length ≤ c ∧ c ≤ maxLen ∧ (l ≠ [] → ∃ b off, a = some ⟨b, off, none⟩ ∧ ∀ i, i < l.length → w.cell? ⟨b, off + i * 2, none⟩ = some (.int .i64 (l.getD i (0, 0)).1) ∧ w.cell? ⟨b, off + i * 2 + 1, none⟩ = some (.int .i64 (l.getD i (0, 0)).2))
theorem IsIt.below {w w' : World} {v : Value} {l : List It} (h : IsIt w v l) (hb : Below w.heap.size w w') : IsIt w' v l := by
  obtain ⟨a, c, e, h1, h2, h3⟩ := h
  refine ⟨a, c, e, h1, h2, fun hne => ?_⟩
  obtain ⟨b, off, ha, hc⟩ := h3 hne
  refine ⟨b, off, ha, fun i hi => ?_⟩
  obtain ⟨k1, k2⟩ := hc i hi
  exact ⟨(hb.cell (block_lt_of_cell k1)).trans k1, (hb.cell (block_lt_of_cell k2)).trans k2⟩
theorem IsIt.at {w : World} {a : Option Addr} {n c : Nat} {l : List It} (h : IsIt w (.slice a n c) l) : n = l.length ∧ n ≤ c ∧ c ≤ 9223372036854775807 ∧ (0 < n → ∃ b off, a = some ⟨b, off, none⟩ ∧ ∀ i, i < n → w.cell? ⟨b, off + i * 2, none⟩ = some (.int .i64 (l.getD i (0, 0)).1) ∧ w.cell? ⟨b, off + i * 2 + 1, none⟩ = some (.int .i64 (l.getD i (0, 0)).2)) := by
  obtain ⟨a', c', e, h1, h2, h3⟩ := h
  injection e with e1 e2 e3
  subst e1 e2 e3
  exact ⟨rfl, h1, by unfold maxLen at h2; omega, fun hp => h3 (by rintro rfl; simp at hp)⟩
theorem isIt_nil (w : World) (a : Option Addr) (c : Nat) (hc : c ≤ maxLen) : IsIt w (.slice a 0 c) [] := ⟨a, c, rfl, by simp, hc, fun h => absurd rfl h⟩
/-- a slice of slices of items -/
def IsIts (w : World) (v : Value) (ls : List (List It)) : Prop :=
  ∃ a c, v = .slice a ls.length c ∧ ls.length ≤ c ∧ c ≤ maxLen ∧ (ls ≠ [] → ∃ b off, a = some ⟨b, off, none⟩ ∧ ∀ i, i < ls.length → ∃ ka kn kc, w.cell? ⟨b, off + i, none⟩ = some (.slice ka kn kc) ∧ IsIt w (.slice ka kn kc) (ls.getD i []))
theorem IsIts.below {w w' : World} {v : Value} {ls : List (List It)} (h : IsIts w v ls) (hb : Below w.heap.size w w') : IsIts w' v ls := by
  obtain ⟨a, c, e, h1, h2, h3⟩ := h
  refine ⟨a, c, e, h1, h2, fun hne => ?_⟩
  obtain ⟨b, off, ha, hc⟩ := h3 hne
  refine ⟨b, off, ha, fun i hi => ?_⟩
  obtain ⟨ka, kn, kc, hx, hk⟩ := hc i hi
  exact ⟨ka, kn, kc, (hb.cell (block_lt_of_cell hx)).trans hx, hk.below hb⟩
theorem IsIts.at {w : World} {a : Option Addr} {n c : Nat} {ls : List (List It)} (h : IsIts w (.slice a n c) ls) : n = ls.length ∧ n ≤ c ∧ c ≤ 9223372036854775807 ∧ (0 < n → ∃ b off, a = some ⟨b, off, none⟩ ∧ ∀ i, i < n → ∃ ka kn kc, w.cell? ⟨b, off + i, none⟩ = some (.slice ka kn kc) ∧ IsIt w (.slice ka kn kc) (ls.getD i [])) := by
  obtain ⟨a', c', e, h1, h2, h3⟩ := h
  injection e with e1 e2 e3
  subst e1 e2 e3
  exact ⟨rfl, h1, by unfold maxLen at h2; omega, fun hp => h3 (by rintro rfl; simp at hp)⟩
/-- is it a run? -/
def runB (l : List It) : Bool := decide (∀ i, i < l.length → 0 < i → (l.getD (i - 1) (0, 0)).1 < (l.getD i (0, 0)).1)
theorem runB_true {l : List It} (h : ∀ i, 0 < i → i < l.length → (l.getD (i - 1) (0, 0)).1 < (l.getD i (0, 0)).1) : runB l = true := decide_eq_true fun i h1 h0 => h i h0 h1
theorem runB_false {l : List It} {i : Nat} (h0 : 0 < i) (h1 : i < l.length) (h : (l.getD i (0, 0)).1 ≤ (l.getD (i - 1) (0, 0)).1) : runB l = false :=
  decide_eq_false fun q => by have := q i h1 h0; omega
def chkE (l : List It) : Int := if runB l then 0 else 31
theorem chkE_yes {l : List It} (h : runB l = true) : chkE l = 0 := by simp [chkE, h]
theorem chkE_no {l : List It} (h : runB l = false) : chkE l = 31 := by simp [chkE, h]
theorem check_any (v : Value) (l : List It) (w : World) (h : IsIt w v l) :
    Calls Try.prog 13 #[v] w fun e w' => e = .returned (.int .i64 (chkE l)) ∧ ∃ n, w' = w.drewN n := by
  obtain ⟨a, c, rfl, -, -, -⟩ := id h
  obtain ⟨-, hc, hm, hx⟩ := h.at
  have Hx := Lib.hid hx
  clear h hx
  obtain ⟨n, hn⟩ : ∃ n, n = l.length := ⟨_, rfl⟩
  rw [← hn] at hc Hx ⊢
  have Hn := Lib.hid hn
  clear hn
  go_enter Try.func13, Try.ntmps13
  go_wp2
  go_loopw [3] (fun i wr => ∃ k : Nat, 1 ≤ k ∧ (k ≤ n ∨ k = 1) ∧ i = .int .i64 k ∧ (∀ i, 0 < i → i < k → i < n → (l.getD (i - 1) (0, 0)).1 < (l.getD i (0, 0)).1) ∧ ∃ d, wr = w.drewN d) (fun i _ => n + 1 - (intOf i).toNat)
  case atStart => exact ⟨1, Nat.le_refl _, .inr rfl, rfl, fun i h0 h1 => by omega, 0, rfl⟩
  case round =>
    obtain ⟨k, hk1, hk, rfl, hall, d, rfl⟩ := hrel
    have Hall := Lib.hid hall
    clear hall
    by_cases hlt : k < n
    · obtain ⟨b, off, rfl, hcell⟩ := Hx.out (by omega)
      obtain ⟨c1, -⟩ := hcell (k - 1) (by omega)
      obtain ⟨c2, -⟩ := hcell k hlt
      have hno := @runB_false l k (by omega) (by rw [← Hn.out]; exact hlt)
      have Hno := Lib.hid hno
      have Hnext : Hid ((l.getD (k - 1) (0, 0)).1 < (l.getD k (0, 0)).1 → ∀ i, 0 < i → i < k + 1 → i < n → (l.getD (i - 1) (0, 0)).1 < (l.getD i (0, 0)).1) := by
        intro hh i h0 h1 h2
        by_cases e : i = k
        · subst e; exact hh
        · exact Hall.out i h0 (by omega) h2
      clear hno hcell
      generalize (l.getD (k - 1) (0, 0)).1 = x at *
      generalize (l.getD k (0, 0)).1 = y at *
      by_cases hxy : y ≤ x
      · have hf := Lib.hid (chkE_no (Hno.out hxy))
        go_wp2
        go_quiet (fail)
        go_wp2
        go_ret
        exact ⟨by rw [hf.out]; rfl, _, World.drewN_drewN ..⟩
      · have hn2 := Lib.hid (Hnext.out (by omega))
        go_wp2
        go_quiet (fail)
        go_wp2
        go_roundw
        case rel => exact ⟨k + 1, by omega, by omega, by go_num, hn2.out, _, rfl⟩
        case measure => simp [intOf]; omega
    · have ht := Lib.hid (chkE_yes (runB_true (l := l) fun i h0 h1 => Hall.out i h0 (by have := Hn.out; omega) (by have := Hn.out; omega)))
      go_wp2
      go_ret
      exact ⟨by rw [ht.out]; rfl, _, rfl⟩
theorem run_any (v : Value) (l : List It) (w : World) (h : IsIt w v l) :
    Calls Try.prog 14 #[v] w fun e w' => e = .returned (.bool (runB l)) ∧ ∃ n, w' = w.drewN n := by
  obtain ⟨a, c, rfl, -, -, -⟩ := id h
  obtain ⟨-, hc, hm, hx⟩ := h.at
  have Hx := Lib.hid hx
  clear h hx
  obtain ⟨n, hn⟩ : ∃ n, n = l.length := ⟨_, rfl⟩
  rw [← hn] at hc Hx ⊢
  have Hn := Lib.hid hn
  clear hn
  go_enter Try.func14, Try.ntmps14
  go_wp2
  go_loopw [3] (fun i wr => ∃ k : Nat, 1 ≤ k ∧ (k ≤ n ∨ k = 1) ∧ i = .int .i64 k ∧ (∀ i, 0 < i → i < k → i < n → (l.getD (i - 1) (0, 0)).1 < (l.getD i (0, 0)).1) ∧ ∃ d, wr = w.drewN d) (fun i _ => n + 1 - (intOf i).toNat)
  case atStart => exact ⟨1, Nat.le_refl _, .inr rfl, rfl, fun i h0 h1 => by omega, 0, rfl⟩
  case round =>
    obtain ⟨k, hk1, hk, rfl, hall, d, rfl⟩ := hrel
    have Hall := Lib.hid hall
    clear hall
    by_cases hlt : k < n
    · obtain ⟨b, off, rfl, hcell⟩ := Hx.out (by omega)
      obtain ⟨c1, -⟩ := hcell (k - 1) (by omega)
      obtain ⟨c2, -⟩ := hcell k hlt
      have hno := @runB_false l k (by omega) (by rw [← Hn.out]; exact hlt)
      have Hno := Lib.hid hno
      have Hnext : Hid ((l.getD (k - 1) (0, 0)).1 < (l.getD k (0, 0)).1 → ∀ i, 0 < i → i < k + 1 → i < n → (l.getD (i - 1) (0, 0)).1 < (l.getD i (0, 0)).1) := by
        intro hh i h0 h1 h2
        by_cases e : i = k
        · subst e; exact hh
        · exact Hall.out i h0 (by omega) h2
      clear hno hcell
      generalize (l.getD (k - 1) (0, 0)).1 = x at *
      generalize (l.getD k (0, 0)).1 = y at *
      by_cases hxy : y ≤ x
      · have hf := Lib.hid (Hno.out hxy)
        go_wp2
        go_quiet (fail)
        go_wp2
        go_ret
        exact ⟨by rw [hf.out]; rfl, _, World.drewN_drewN ..⟩
      · have hn2 := Lib.hid (Hnext.out (by omega))
        go_wp2
        go_quiet (fail)
        go_wp2
        go_roundw
        case rel => exact ⟨k + 1, by omega, by omega, by go_num, hn2.out, _, rfl⟩
        case measure => simp [intOf]; omega
    · have ht := Lib.hid (id (runB_true (l := l) fun i h0 h1 => Hall.out i h0 (by have := Hn.out; omega) (by have := Hn.out; omega)))
      go_wp2
      go_ret
      exact ⟨by rw [ht.out]; rfl, _, rfl⟩
/-- are all of them runs? -/
def runsB (ls : List (List It)) : Bool := ls.all runB
theorem runsB_true {ls : List (List It)} (h : ∀ i, i < ls.length → runB (ls.getD i []) = true) : runsB ls = true := by
  unfold runsB
  rw [List.all_eq_true]
  intro l hl
  obtain ⟨i, hi, rfl⟩ := List.mem_iff_getElem.1 hl
  have := h i hi
  rwa [List.getD_eq_getElem?_getD, List.getElem?_eq_getElem hi] at this
theorem runsB_false {ls : List (List It)} {i : Nat} (hi : i < ls.length) (h : runB (ls.getD i []) = false) : runsB ls = false := by
  cases e : runsB ls with
  | false => rfl
  | true =>
    unfold runsB at e
    rw [List.all_eq_true] at e
    have := e (ls.getD i []) (by rw [List.getD_eq_getElem?_getD, List.getElem?_eq_getElem hi]; exact List.getElem_mem _)
    rw [this] at h; cases h
theorem runs_any (v : Value) (ls : List (List It)) (w : World) (h : IsIts w v ls) :
    Calls Try.prog 16 #[v] w fun e w' => e = .returned (.bool (runsB ls)) ∧ ∃ n, w' = w.drewN n := by
  obtain ⟨a, c, rfl, -, -, -⟩ := id h
  obtain ⟨-, hc, hm, hx⟩ := h.at
  have Hx := Lib.hid hx
  clear h hx
  obtain ⟨n, hn⟩ : ∃ n, n = ls.length := ⟨_, rfl⟩
  rw [← hn] at hc Hx ⊢
  have Hn := Lib.hid hn
  clear hn
  go_enter Try.func16, Try.ntmps16
  go_wp2
  go_loopw [3] (fun i wr => ∃ k : Nat, k ≤ n ∧ i = .int .i64 k ∧ (∀ i, i < k → runB (ls.getD i []) = true) ∧ ∃ d, wr = w.drewN d) (fun i _ => n - (intOf i).toNat)
  case atStart => exact ⟨0, Nat.zero_le _, rfl, fun i h0 => by omega, 0, rfl⟩
  case round =>
    obtain ⟨k, hk, rfl, hall, d, rfl⟩ := hrel
    have Hall := Lib.hid hall
    clear hall
    by_cases hlt : k < n
    · obtain ⟨b, off, rfl, hcell⟩ := Hx.out (by omega)
      obtain ⟨ka, kn, kc, c1, hrow⟩ := hcell k hlt
      have Hno := Lib.hid (@runsB_false ls k (by rw [← Hn.out]; exact hlt))
      have hrun := Lib.hid (run_any _ _ (w.drewN d) (hrow.below ⟨rfl, rfl, rfl, Nat.le_refl _, fun _ _ => rfl⟩))
      have Hnext : Hid (runB (ls.getD k []) = true → ∀ i, i < k + 1 → runB (ls.getD i []) = true) := by
        intro hh i h1
        by_cases e : i = k
        · subst e; exact hh
        · exact Hall.out i (by omega)
      clear hcell hrow
      generalize runB (ls.getD k []) = B at *
      cases B with
      | false =>
        have hf := Lib.hid (Hno.out rfl)
        go_wp2_with fail
        refine hrun.out.mono ?_
        rintro e w' ⟨rfl, nq, rfl⟩
        go_wp2
        go_ret
        exact ⟨by rw [hf.out]; rfl, _, rfl⟩
      | true =>
        have hn2 := Lib.hid (Hnext.out rfl)
        go_wp2_with fail
        refine hrun.out.mono ?_
        rintro e w' ⟨rfl, nq, rfl⟩
        go_wp2
        go_roundw
        case rel => exact ⟨k + 1, by omega, by go_num, hn2.out, _, rfl⟩
        case measure => simp [intOf]; omega
    · have ht := Lib.hid (runsB_true (ls := ls) fun i h0 => Hall.out i (by have := Hn.out; omega))
      go_wp2
      go_ret
      exact ⟨by rw [ht.out]; rfl, _, rfl⟩
/-- the place of the first that is not below -/
def ceilL (l : List It) (K : Int) : Nat := l.findIdx fun x => K ≤ x.1
theorem ceil_at {l : List It} {K : Int} {k : Nat} (h : ∀ j, j < k → (l.getD j (0, 0)).1 < K) (hk : k < l.length) (hK : K ≤ (l.getD k (0, 0)).1) : ceilL l K = k := by
  unfold ceilL
  rw [List.findIdx_eq hk]
  rw [List.getD_eq_getElem?_getD, List.getElem?_eq_getElem hk] at hK
  refine ⟨by simpa using hK, fun j hj => ?_⟩
  have := h j hj
  rw [List.getD_eq_getElem?_getD, List.getElem?_eq_getElem (by omega)] at this
  simp at this ⊢
  omega
theorem ceil_end {l : List It} {K : Int} (h : ∀ j, j < l.length → (l.getD j (0, 0)).1 < K) : ceilL l K = l.length := by
  unfold ceilL
  rw [List.findIdx_eq_length]
  intro x hx
  obtain ⟨j, hj, rfl⟩ := List.mem_iff_getElem.1 hx
  have := h j hj
  rw [List.getD_eq_getElem?_getD, List.getElem?_eq_getElem hj] at this
  simp at this ⊢
  omega
def hasK (l : List It) (K : Int) : Bool := l.any fun x => x.1 == K
theorem has_at {l : List It} {K : Int} {k : Nat} (hk : k < l.length) (hK : (l.getD k (0, 0)).1 = K) : hasK l K = true := by
  unfold hasK
  rw [List.any_eq_true]
  rw [List.getD_eq_getElem?_getD, List.getElem?_eq_getElem hk] at hK
  exact ⟨l[k], List.getElem_mem _, by simpa using hK⟩
theorem has_end {l : List It} {K : Int} (h : ∀ j, j < l.length → (l.getD j (0, 0)).1 ≠ K) : hasK l K = false := by
  unfold hasK
  rw [List.any_eq_false]
  intro x hx
  obtain ⟨j, hj, rfl⟩ := List.mem_iff_getElem.1 hx
  have := h j hj
  rw [List.getD_eq_getElem?_getD, List.getElem?_eq_getElem hj] at this
  simpa using this
theorem refceil_any (v : Value) (l : List It) (K : Int) (w : World) (h : IsIt w v l) :
    Calls Try.prog 20 #[v, .int .i64 K] w fun e w' => e = .returned (.int .i64 (ceilL l K : Nat)) ∧ w = w' := by
  obtain ⟨a, c, rfl, -, -, -⟩ := id h
  obtain ⟨-, hc, hm, hx⟩ := h.at
  have Hx := Lib.hid hx
  clear h hx
  obtain ⟨n, hn⟩ : ∃ n, n = l.length := ⟨_, rfl⟩
  rw [← hn] at hc Hx ⊢
  have Hn := Lib.hid hn
  clear hn
  go_enter Try.func20, Try.ntmps20
  go_wp2
  go_loop [5] (fun i => ∃ k : Nat, k ≤ n ∧ i = .int .i64 k ∧ ∀ j, j < k → (l.getD j (0, 0)).1 < K) (fun i => n - (intOf i).toNat)
  case atStart => exact ⟨0, Nat.zero_le _, rfl, fun i h0 => by omega⟩
  case round =>
    obtain ⟨k, hk, rfl, hall⟩ := hrel
    have Hall := Lib.hid hall
    clear hall
    by_cases hlt : k < n
    · obtain ⟨b, off, rfl, hcell⟩ := Hx.out (by omega)
      obtain ⟨c1, -⟩ := hcell k hlt
      have Hit := Lib.hid (fun hh => ceil_at (l := l) (K := K) Hall.out (by rw [← Hn.out]; exact hlt) hh)
      have Hnext : Hid ((l.getD k (0, 0)).1 < K → ∀ j, j < k + 1 → (l.getD j (0, 0)).1 < K) := by
        intro hh j h1
        by_cases e : j = k
        · subst e; exact hh
        · exact Hall.out j (by omega)
      clear hcell
      generalize (l.getD k (0, 0)).1 = x at *
      by_cases hxy : K ≤ x
      · have hf := Lib.hid (Hit.out hxy)
        skip
        go_wp2
        go_ret
        exact ⟨by rw [hf.out]; rfl, rfl⟩
      · have hn2 := Lib.hid (Hnext.out (by omega))
        skip
        go_wp2
        go_round
        case rel => exact ⟨k + 1, by omega, by go_num, hn2.out⟩
        case measure => simp [intOf]; omega
    · have ht := Lib.hid (ceil_end (l := l) (K := K) fun j hj => Hall.out j (by have := Hn.out; omega))
      have ht2 := ht.out
      rw [← Hn.out] at ht2
      have Ht2 := Lib.hid ht2
      clear ht2
      obtain rfl : k = n := by omega
      go_wp2
      go_ret
      exact ⟨by rw [Ht2.out]; rfl, rfl⟩
theorem refhas_any (v : Value) (l : List It) (K : Int) (w : World) (h : IsIt w v l) :
    Calls Try.prog 21 #[v, .int .i64 K] w fun e w' => e = .returned (.bool (hasK l K)) ∧ w = w' := by
  obtain ⟨a, c, rfl, -, -, -⟩ := id h
  obtain ⟨-, hc, hm, hx⟩ := h.at
  have Hx := Lib.hid hx
  clear h hx
  obtain ⟨n, hn⟩ : ∃ n, n = l.length := ⟨_, rfl⟩
  rw [← hn] at hc Hx ⊢
  have Hn := Lib.hid hn
  clear hn
  go_enter Try.func21, Try.ntmps21
  go_wp2
  go_loop [5] (fun i => ∃ k : Nat, k ≤ n ∧ i = .int .i64 k ∧ ∀ j, j < k → (l.getD j (0, 0)).1 ≠ K) (fun i => n - (intOf i).toNat)
  case atStart => exact ⟨0, Nat.zero_le _, rfl, fun i h0 => by omega⟩
  case round =>
    obtain ⟨k, hk, rfl, hall⟩ := hrel
    have Hall := Lib.hid hall
    clear hall
    by_cases hlt : k < n
    · obtain ⟨b, off, rfl, hcell⟩ := Hx.out (by omega)
      obtain ⟨c1, -⟩ := hcell k hlt
      have Hit := Lib.hid (fun hh => has_at (l := l) (K := K) (k := k) (by rw [← Hn.out]; exact hlt) hh)
      have Hnext : Hid ((l.getD k (0, 0)).1 ≠ K → ∀ j, j < k + 1 → (l.getD j (0, 0)).1 ≠ K) := by
        intro hh j h1
        by_cases e : j = k
        · subst e; exact hh
        · exact Hall.out j (by omega)
      clear hcell
      generalize (l.getD k (0, 0)).1 = x at *
      by_cases hxy : x = K
      · have hf := Lib.hid (Hit.out hxy)
        have tt : (x == K) = true := by simp [hxy]
        have Hxy := Lib.hid hxy
        clear hxy
        go_wp2
        go_ret
        exact ⟨by rw [hf.out]; rfl, rfl⟩
      · have hn2 := Lib.hid (Hnext.out (by omega))
        have tt : (x == K) = false := by simp [hxy]
        clear hxy
        go_wp2
        go_round
        case rel => exact ⟨k + 1, by omega, by go_num, hn2.out⟩
        case measure => simp [intOf]; omega
    · have ht := Lib.hid (has_end (l := l) (K := K) fun j hj => Hall.out j (by have := Hn.out; omega))
      have ht2 := ht.out
      have Ht2 := Lib.hid ht2
      clear ht2
      obtain rfl : k = n := by omega
      go_wp2
      go_ret
      exact ⟨by rw [Ht2.out]; rfl, rfl⟩
theorem same_true (v v' : Value) (l : List It) (w : World) (h : IsIt w v l) (h' : IsIt w v' l) :
    Calls Try.prog 15 #[v, v'] w fun e w' => e = .returned (.bool true) ∧ ∃ n, w' = w.drewN n := by
  obtain ⟨a, c, rfl, -, -, -⟩ := id h
  obtain ⟨-, hc, hm, hx⟩ := h.at
  obtain ⟨a', c', rfl, -, -, -⟩ := id h'
  obtain ⟨-, hc', hm', hx'⟩ := h'.at
  have Hx := Lib.hid hx
  have Hx' := Lib.hid hx'
  clear h hx h' hx'
  obtain ⟨n, hn⟩ : ∃ n, n = l.length := ⟨_, rfl⟩
  rw [← hn] at hc hc' Hx Hx' ⊢
  clear hn
  go_enter Try.func15, Try.ntmps15
  go_wp2
  go_loopw [13] (fun i wr => ∃ k : Nat, k ≤ n ∧ i = .int .i64 k ∧ ∃ d, wr = w.drewN d) (fun i _ => n - (intOf i).toNat)
  case atStart => exact ⟨0, Nat.zero_le _, rfl, 0, rfl⟩
  case round =>
    obtain ⟨k, hk, rfl, d, rfl⟩ := hrel
    by_cases hlt : k < n
    · obtain ⟨b, off, rfl, hcell⟩ := Hx.out (by omega)
      obtain ⟨b', off', rfl, hcell'⟩ := Hx'.out (by omega)
      obtain ⟨c1, c2⟩ := hcell k hlt
      obtain ⟨c1', c2'⟩ := hcell' k hlt
      clear hcell hcell'
      generalize (l.getD k (0, 0)).1 = x at *
      generalize (l.getD k (0, 0)).2 = y at *
      have hxx : (x != x) = false := by simp
      have hyy : (y != y) = false := by simp
      go_wp2
      go_quiet (fail)
      go_wp2
      go_roundw
      case rel => exact ⟨k + 1, by omega, by go_num, _, rfl⟩
      case measure => simp [intOf]; omega
    · go_wp2
      go_ret
      exact ⟨rfl, _, rfl⟩
end Go.Proofs.Ytcgkpbhoiaeolaa.Tithe
