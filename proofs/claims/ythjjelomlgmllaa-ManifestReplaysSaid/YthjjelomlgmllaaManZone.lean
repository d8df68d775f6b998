/- Rows of whole numbers; manifest's zones: walked. -/
import Derived.Test.YthjjelomlgmllaaLevCore
import Derived.Test.YthjjelomlgmllaaSlice
namespace Go.Proofs.Ythjjelomlgmllaa.Tithe
open Go.RowKit Go.Sort
set_option linter.unusedVariables false
set_option maxRecDepth 100000
def zzC (z : Int) : List Value := [.int .i64 z]
theorem zzC_len (z : Int) : (zzC z).length = 1 := rfl
abbrev IsZs (w : World) (v : Value) (l : List Int) : Prop := IsSl zzC 1 w v l
theorem IsZs.row {w : World} {b off : Nat} {l : List Int} (h : ∀ i x, l[i]? = some x → ∀ j y, (zzC x)[j]? = some y → w.cell? ⟨b, off + i * 1 + j, none⟩ = some y) {i : Nat} {x : Int} (hx : l[i]? = some x) :
    w.cell? ⟨b, off + i, none⟩ = some (.int .i64 x) := by
  have := h i x hx 0 _ rfl
  rw [Nat.mul_one, Nat.add_zero] at this
  exact this
def idxZ (l : List Int) : Int := match l.findIdx? (fun z => !zoneOk z) with | some i => (i : Int) | none => -1
theorem idxZ_at {l : List Int} {k : Nat} {x : Int} (h : ∀ (j : Nat) (y : Int), j < k → l[j]? = some y → zoneOk y = true) (hx : l[k]? = some x) (hp : zoneOk x = false) : idxZ l = (k : Int) := by
  unfold idxZ
  have : l.findIdx? (fun z => !zoneOk z) = some k := by
    obtain ⟨h1, h2⟩ := List.getElem?_eq_some_iff.1 hx
    rw [List.findIdx?_eq_some_iff_getElem]
    refine ⟨h1, by rw [h2, hp]; rfl, fun j hj => ?_⟩
    rw [h j _ hj (List.getElem?_eq_getElem (by omega))]; simp
  rw [this]
theorem idxZ_none {l : List Int} (h : ∀ (j : Nat) (y : Int), l[j]? = some y → zoneOk y = true) : idxZ l = -1 := by
  unfold idxZ
  have : l.findIdx? (fun z => !zoneOk z) = none := by
    rw [List.findIdx?_eq_none_iff]
    intro x hx
    obtain ⟨j, hj, rfl⟩ := List.getElem_of_mem hx
    rw [h j _ (List.getElem?_eq_getElem hj)]; rfl
  rw [this]
theorem all_idx {l : List Int} : (l.all zoneOk = false ∧ ∃ i : Nat, idxZ l = i) ∨ (l.all zoneOk = true ∧ idxZ l = -1) := by
  unfold idxZ
  cases h : l.findIdx? (fun z => !zoneOk z) with
  | none =>
    right
    refine ⟨?_, rfl⟩
    rw [List.all_eq_true]
    intro x hx
    have := List.findIdx?_eq_none_iff.1 h x hx
    simpa using this
  | some i =>
    left
    obtain ⟨h1, h2, -⟩ := List.findIdx?_eq_some_iff_getElem.1 h
    refine ⟨?_, i, rfl⟩
    rw [List.all_eq_false]
    exact ⟨_, List.getElem_mem h1, by simpa using h2⟩
attribute [local go_sem] Oper.semAt_some
theorem zones1_any (z : Int) (w : World) : Calls Try.prog 69 #[.int .i64 z] w fun e w' => e = .returned (.bool (!zoneOk z)) ∧ w' = w := by
  unfold zoneOk
  by_cases h : 0 ≤ z
  · by_cases h2 : z < 64
    · have e : (!(decide (0 ≤ z) && decide (z < 64))) = false := by simp [h, h2]
      rw [e]
      have h0 : decide (z < 0) = false := decide_eq_false (by omega)
      have h3 : decide (z ≥ 64) = false := decide_eq_false (by omega)
      have h4 : decide (64 ≤ z) = false := decide_eq_false (by omega)
      go_enter Try.func69, Try.ntmps69
      go_wp2
      go_ret
      exact ⟨rfl, rfl⟩
    · have e : (!(decide (0 ≤ z) && decide (z < 64))) = true := by simp [h2]
      rw [e]
      have h0 : decide (z < 0) = false := decide_eq_false (by omega)
      have h3 : decide (z ≥ 64) = true := decide_eq_true (by omega)
      have h4 : decide (64 ≤ z) = true := decide_eq_true (by omega)
      go_enter Try.func69, Try.ntmps69
      go_wp2
      go_ret
      exact ⟨rfl, rfl⟩
  · have e : (!(decide (0 ≤ z) && decide (z < 64))) = true := by simp [h]
    rw [e]
    have h0 : decide (z < 0) = true := decide_eq_true (by omega)
    go_enter Try.func69, Try.ntmps69
    go_wp2
    go_ret
    exact ⟨rfl, rfl⟩
set_option maxHeartbeats 1600000 in
theorem zindex_any (v : Value) (l : List Int) (w : World) (h : IsZs w v l) :
    Calls Try.prog 86 #[v, .func (.func 69) #[] #[]] w fun e w' => e = .returned (.int .i64 (idxZ l)) ∧ w' = w := by
  obtain ⟨a, c, rfl, -, -, -⟩ := id h
  obtain ⟨-, hc, hm, hx⟩ := h.at
  have Hx := Lib.hid hx
  clear h hx
  obtain ⟨n, hn⟩ : ∃ n, n = l.length := ⟨_, rfl⟩
  rw [← hn] at Hx hc ⊢
  have Hn := Lib.hid hn
  clear hn
  go_enter Try.func86, Try.ntmps86
  go_wp2
  go_loopw [8] (fun i wr => ∃ k : Nat, k ≤ n ∧ i = .int .i64 k ∧ (∀ j y, j < k → l[j]? = some y → zoneOk y = true) ∧ wr = w) (fun i _ => n - (intOf i).toNat)
  case atStart => exact ⟨0, Nat.zero_le _, rfl, by omega, rfl⟩
  case round =>
    obtain ⟨k, hk, rfl, hr, rfl⟩ := hrel
    have Hr := Lib.hid hr
    clear hr
    by_cases hkn : k < n
    · obtain ⟨b, off, rfl, hcell⟩ := Hx.out (by omega)
      obtain ⟨x, hxk⟩ : ∃ x, l[k]? = some x := ⟨_, List.getElem?_eq_getElem (by rw [← Hn.out]; exact hkn)⟩
      have d0 := IsZs.row hcell hxk
      have Hxk := Lib.hid hxk
      clear hxk hcell
      cases hpx : zoneOk x with
      | false =>
        have hpk2 := zones1_any x wr
        rw [hpx] at hpk2
        have Hpk := Lib.hid hpk2
        have Hidx := Lib.hid (idxZ_at Hr.out Hxk.out hpx)
        clear hpk2 hpx
        go_wp2_with fail
        refine Hpk.out.mono ?_
        rintro e w2 ⟨rfl, rfl⟩
        go_wp2
        go_ret
        exact ⟨by rw [Hidx.out]; rfl, rfl⟩
      | true =>
        have hpk2 := zones1_any x wr
        rw [hpx] at hpk2
        have Hpk := Lib.hid hpk2
        have Hpx := Lib.hid hpx
        clear hpk2 hpx
        go_wp2_with fail
        refine Hpk.out.mono ?_
        rintro e w2 ⟨rfl, rfl⟩
        go_wp2
        go_roundw
        case rel =>
          refine ⟨k + 1, by omega, by go_num, fun j y hj hy => ?_, by trivial⟩
          by_cases e : j = k
          · subst e
            have := hy.symm.trans Hxk.out
            injection this with this
            rw [this]; exact Hpx.out
          · exact Hr.out j y (by omega) hy
        case measure => simp [intOf]; omega
    · obtain rfl : k = n := by omega
      have Hidx : Hid (idxZ l = -1) := Lib.hid (idxZ_none (fun j y hy => Hr.out j y (by rw [Hn.out]; exact (List.getElem?_eq_some_iff.1 hy).1) hy))
      go_wp2
      go_ret
      exact ⟨by rw [Hidx.out]; rfl, rfl⟩
theorem zcontains_any (v : Value) (l : List Int) (w : World) (h : IsZs w v l) : Calls Try.prog 68 #[v, .func (.func 69) #[] #[]] w fun e w' => e = .returned (.bool (!l.all zoneOk)) ∧ w' = w := by
  have hi := zindex_any v l w h
  have hl := h
  obtain ⟨a, c, rfl, -, -, -⟩ := hl
  rcases all_idx (l := l) with ⟨e1, i, e2⟩ | ⟨e1, e2⟩
  · rw [e2] at hi
    rw [e1]
    have Hi := Lib.hid hi
    have hi0 : decide ((i : Int) ≥ 0) = true := decide_eq_true (by omega)
    have hi1 : decide ((0 : Int) ≤ (i : Int)) = true := decide_eq_true (by omega)
    clear hi e1 e2 h
    go_enter Try.func68, Try.ntmps68
    go_wp2_with fail
    refine Hi.out.mono ?_
    rintro e w2 ⟨rfl, rfl⟩
    go_wp2_with fail
    go_ret
    exact ⟨rfl, rfl⟩
  · rw [e2] at hi
    rw [e1]
    have Hi := Lib.hid hi
    clear hi e1 e2 h
    go_enter Try.func68, Try.ntmps68
    go_wp2_with fail
    refine Hi.out.mono ?_
    rintro e w2 ⟨rfl, rfl⟩
    go_wp2_with fail
    go_ret
    exact ⟨rfl, rfl⟩
/-- at most 64 numbers of zones -/
def zsOk (l : List Int) : Bool := decide (l.length ≤ 64) && l.all zoneOk
theorem zones_any (v : Value) (l : List Int) (w : World) (h : IsZs w v l) : Calls Try.prog 36 #[v] w fun e w' => e = .returned (.bool (zsOk l)) ∧ w' = w := by
  have hi := zcontains_any v l w h
  have hl := h
  obtain ⟨a, c, rfl, -, -, -⟩ := hl
  obtain ⟨n, hn⟩ : ∃ n, n = l.length := ⟨_, rfl⟩
  unfold zsOk
  rw [← hn] at hi ⊢
  by_cases h64 : n ≤ 64
  · have e0 : (decide (n ≤ 64) && l.all zoneOk) = l.all zoneOk := by simp [h64]
    rw [e0]
    generalize l.all zoneOk = q at *
    have Hi := Lib.hid hi
    have hi0 : decide ((n : Int) ≤ 64) = true := decide_eq_true (by omega)
    clear hi hn h e0
    cases q with
    | true =>
      go_enter Try.func36, Try.ntmps36
      go_wp2_with fail
      refine Hi.out.mono ?_
      rintro e w2 ⟨rfl, rfl⟩
      go_wp2_with fail
      go_ret
      exact ⟨rfl, rfl⟩
    | false =>
      go_enter Try.func36, Try.ntmps36
      go_wp2_with fail
      refine Hi.out.mono ?_
      rintro e w2 ⟨rfl, rfl⟩
      go_wp2_with fail
      go_ret
      exact ⟨rfl, rfl⟩
  · have e0 : (decide (n ≤ 64) && l.all zoneOk) = false := by simp [h64]
    rw [e0]
    have hi0 : decide ((n : Int) ≤ 64) = false := decide_eq_false (by omega)
    clear hi hn h e0
    go_enter Try.func36, Try.ntmps36
    go_wp2_with fail
    go_ret
    exact ⟨rfl, rfl⟩
end Go.Proofs.Ythjjelomlgmllaa.Tithe
