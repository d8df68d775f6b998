/- Lists of keys; small; awake. -/
import Derived.Test.YtkdipflmmlnbpaaDoorBloomBytes
import Derived.Lib.SlBytesConst
namespace Go.Proofs.YtkdipflmmlnbpaaDoor.Tithe
open Go.RowKit Go.Sort Go.Shelf
set_option linter.unusedVariables false
/-- a slice of byte slices that reads as a list of lists -/
def IsRows (w : World) (v : Value) (ks : List (List Nat)) : Prop :=
  ∃ a c, v = .slice a ks.length c ∧ ks.length ≤ c ∧ c ≤ maxLen ∧ (ks ≠ [] → ∃ b off, a = some ⟨b, off, none⟩ ∧ ∀ i, i < ks.length → ∃ ka kn kc, w.cell? ⟨b, off + i, none⟩ = some (.slice ka kn kc) ∧ IsBytes w (.slice ka kn kc) (ks.getD i []))
theorem IsRows.below {w w' : World} {v : Value} {ks : List (List Nat)} (h : IsRows w v ks) (hb : Below w.heap.size w w') : IsRows w' v ks := by
  obtain ⟨a, c, e, h1, h2, h3⟩ := h
  refine ⟨a, c, e, h1, h2, fun hne => ?_⟩
  obtain ⟨b, off, ha, hc⟩ := h3 hne
  refine ⟨b, off, ha, fun i hi => ?_⟩
  obtain ⟨ka, kn, kc, hx, hk⟩ := hc i hi
  exact ⟨ka, kn, kc, by rw [hb.cell (block_lt_of_cell hx)]; exact hx, hk.below hb⟩
def smallB (ks : List (List Nat)) : Bool := decide (∀ i, i < ks.length → (ks.getD i []).length ≤ 200) && decide (ks.length ≤ 60)
theorem small_walk (b off cap : Nat) (ks : List (List Nat)) (w : World) (hl : ks.length ≤ cap) (hm : cap ≤ maxLen)
    (hc : ∀ i, i < ks.length → ∃ ka kn kc, w.cell? ⟨b, off + i, none⟩ = some (.slice ka kn kc) ∧ IsBytes w (.slice ka kn kc) (ks.getD i [])) :
    Calls Tryd.prog 9 #[.slice (some ⟨b, off, none⟩) ks.length cap] w fun e w' => e = .returned (.bool (smallB ks)) ∧ w = w' := by
  unfold maxLen at hm
  have Hc := Lib.hid hc
  clear hc
  have hfin : Hid ((∀ i, i < ks.length → (ks.getD i []).length ≤ 200) → decide ((ks.length : Int) ≤ 60) = smallB ks) := by
    intro h
    unfold smallB
    rw [decide_eq_true h, Bool.true_and]
    exact decide_eq_decide.2 (by omega)
  have hno : Hid (∀ i, i < ks.length → 200 < (ks.getD i []).length → smallB ks = false) := by
    intro i hi h
    unfold smallB
    rw [decide_eq_false (fun q => by have := q i hi; omega)]; rfl
  go_enter Tryd.func9, Tryd.ntmps9
  go_wp2
  go_loop [7] (fun i => ∃ k : Nat, k ≤ ks.length ∧ i = .int .i64 k ∧ ∀ j, j < k → (ks.getD j []).length ≤ 200) (fun i => ks.length - (intOf i).toNat)
  case atStart => exact ⟨0, Nat.zero_le _, rfl, fun j hj => by omega⟩
  case round =>
    obtain ⟨k, hk, rfl, hall⟩ := hrel
    have Hall := Lib.hid hall
    clear hall
    by_cases hlt : k < ks.length
    · obtain ⟨ka, kn, kc, hx, hkb⟩ := Hc.out k hlt
      obtain ⟨-, _, _, e, h1, h2, -⟩ := hkb
      injection e with e1 e2 e3
      have He2 := Lib.hid e2
      subst e3
      clear e1 e2
      have hkn : kn ≤ 9223372036854775807 := by have := He2.out; unfold maxLen at h2; omega
      by_cases hlong : (200 : Int) < (kn : Int)
      · have hr := Lib.hid (hno.out k hlt (by rw [← He2.out]; omega))
        clear h1 h2
        go_wp2
        go_ret
        exact ⟨by rw [hr.out]; rfl, rfl⟩
      · have hnext : Hid (∀ j, j < k + 1 → (ks.getD j []).length ≤ 200) := by
          intro j hj
          rcases Nat.lt_or_ge j k with q | q
          · exact Hall.out j q
          · obtain rfl : j = k := by omega
            rw [← He2.out]; omega
        clear h1 h2
        go_wp2
        go_round
        case rel => exact ⟨k + 1, by omega, by go_num, hnext.out⟩
        case measure => simp [intOf]; omega
    · obtain rfl : k = ks.length := by omega
      have hr := Lib.hid (hfin.out Hall.out)
      go_wp2
      go_ret
      exact ⟨by rw [← hr.out]; rfl, rfl⟩
theorem small_nil (a : Option Addr) (cap : Nat) (w : World) :
    Calls Tryd.prog 9 #[.slice a 0 cap] w fun e w' => e = .returned (.bool (smallB [])) ∧ w = w' := by
  have hs : Hid (smallB [] = true) := rfl
  rw [hs.out]
  clear hs
  go_enter Tryd.func9, Tryd.ntmps9
  go_wp2
  go_loop [7] (fun i => i = .int .i64 0) (fun i => 0)
  case atStart => rfl
  case round =>
    subst hrel
    go_wp2
    go_ret
    exact ⟨rfl, rfl⟩
theorem small_any (v : Value) (ks : List (List Nat)) (w : World) (h : IsRows w v ks) :
    Calls Tryd.prog 9 #[v] w fun e w' => e = .returned (.bool (smallB ks)) ∧ w = w' := by
  obtain ⟨a, c, rfl, h1, h2, h3⟩ := h
  by_cases he : ks = []
  · subst he; exact small_nil a c w
  · obtain ⟨b, off, rfl, hc⟩ := h3 he
    exact small_walk b off c ks w h1 h2 hc
end Go.Proofs.YtkdipflmmlnbpaaDoor.Tithe
