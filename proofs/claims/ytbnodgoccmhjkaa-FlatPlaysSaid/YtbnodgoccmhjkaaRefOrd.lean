/- The document's order of texts: walked (after KeyCore, without keys). -/
import Derived.Test.YtbnodgoccmhjkaaSlice
import Derived.Test.YtbnodgoccmhjkaaKeyPlain
import Derived.Deep.RegionWith
import Derived.Deep.RegionHeld3
namespace Go.Proofs.Ytbnodgoccmhjkaa.Tithe
open Go.RowKit Go.Sort
set_option linter.unusedVariables false
theorem ordL (a b : List UInt8) : ∀ (k : Nat), k ≤ a.length → k ≤ b.length → a.take k = b.take k → Lib.compareBytes a b = Lib.compareBytes (a.drop k) (b.drop k)
  | 0, _, _, _ => by simp
  | k + 1, h1, h2, h => by
    match a, b, h1, h2, h with
    | x :: a, y :: b, h1, h2, h =>
      simp only [List.take_succ_cons, List.cons.injEq] at h
      obtain ⟨rfl, h⟩ := h
      rw [List.drop_succ_cons, List.drop_succ_cons, ← ordL a b k (by simpa using h1) (by simpa using h2) h]
      show (if x < x then (-1 : Int) else if x < x then 1 else _) = _
      rw [if_neg (UInt8.lt_irrefl x), if_neg (UInt8.lt_irrefl x)]
theorem ba_len (a : ByteArray) : a.data.toList.length = a.size := by obtain ⟨⟨l⟩⟩ := a; rfl
theorem ba_get {a : ByteArray} {k : Nat} (h : k < a.size) : a.data.toList[k]'(by rw [ba_len]; exact h) = a[k] := by
  obtain ⟨⟨l⟩⟩ := a; rfl
theorem ord_drop {a b : ByteArray} {k : Nat} (h1 : k < a.size) (h2 : k < b.size) (ht : a.data.toList.take k = b.data.toList.take k) : cmpB a b = if a[k] < b[k] then -1 else if b[k] < a[k] then 1 else Lib.compareBytes (a.data.toList.drop (k + 1)) (b.data.toList.drop (k + 1)) := by
  unfold cmpB
  rw [ordL _ _ k (by rw [ba_len]; omega) (by rw [ba_len]; omega) ht, List.drop_eq_getElem_cons (by rw [ba_len]; exact h1), List.drop_eq_getElem_cons (l := b.data.toList) (by rw [ba_len]; exact h2), ba_get h1, ba_get h2]
  rfl
theorem ord_lt {a b : ByteArray} {k : Nat} (h1 : k < a.size) (h2 : k < b.size) (ht : a.data.toList.take k = b.data.toList.take k) (h : a[k].toNat < b[k].toNat) : cmpB a b = -1 := by
  rw [ord_drop h1 h2 ht, if_pos (UInt8.lt_iff_toNat_lt.2 h)]
theorem ord_gt {a b : ByteArray} {k : Nat} (h1 : k < a.size) (h2 : k < b.size) (ht : a.data.toList.take k = b.data.toList.take k) (h : b[k].toNat < a[k].toNat) : cmpB a b = 1 := by
  rw [ord_drop h1 h2 ht, if_neg (fun q => by have := UInt8.lt_iff_toNat_lt.1 q; omega), if_pos (UInt8.lt_iff_toNat_lt.2 h)]
theorem ord_eq {a b : ByteArray} {k : Nat} (h1 : k < a.size) (h2 : k < b.size) (ht : a.data.toList.take k = b.data.toList.take k) (h : a[k].toNat = b[k].toNat) : a.data.toList.take (k + 1) = b.data.toList.take (k + 1) := by
  rw [List.take_succ_eq_append_getElem (by rw [ba_len]; exact h1), List.take_succ_eq_append_getElem (l := b.data.toList) (by rw [ba_len]; exact h2), ht, ba_get h1, ba_get h2, UInt8.toNat_inj.1 h]
theorem ord_end1 {a b : ByteArray} (h2 : a.size < b.size) (ht : a.data.toList.take a.size = b.data.toList.take a.size) : cmpB a b = -1 := by
  unfold cmpB
  rw [ordL _ _ a.size (by rw [ba_len]; omega) (by rw [ba_len]; omega) ht, List.drop_of_length_le (by rw [ba_len]; omega), List.drop_eq_getElem_cons (l := b.data.toList) (by rw [ba_len]; exact h2)]
  rfl
theorem ord_end2 {a b : ByteArray} (h2 : b.size < a.size) (ht : a.data.toList.take b.size = b.data.toList.take b.size) : cmpB a b = 1 := by
  rw [cmpB_swap b a, ord_end1 h2 ht.symm]; rfl
theorem ord_end0 {a b : ByteArray} (h2 : a.size = b.size) (ht : a.data.toList.take a.size = b.data.toList.take a.size) : cmpB a b = 0 := by
  unfold cmpB
  rw [ordL _ _ a.size (by rw [ba_len]; omega) (by rw [ba_len]; omega) ht, List.drop_of_length_le (by rw [ba_len]; omega), List.drop_of_length_le (by rw [ba_len]; omega)]
  rfl
set_option maxHeartbeats 800000 in
theorem order_any (a b : ByteArray) (ha : a.size ≤ maxLen) (hb : b.size ≤ maxLen) (w : World) : Calls Try.prog 75 #[.string a, .string b] w fun e w' => e = .returned (.int .i64 (cmpB a b)) ∧ ∃ n, w' = w.drewN n := by
  have ha2 : (a.size : Int) ≤ 9223372036854775807 := by unfold maxLen at ha; omega
  have hb2 : (b.size : Int) ≤ 9223372036854775807 := by unfold maxLen at hb; omega
  clear ha hb
  go_enter Try.func75, Try.ntmps75
  have Ha := Lib.hid ha2
  have Hb := Lib.hid hb2
  go_wp2
  go_loopw [5] (fun i wr => ∃ k : Nat, k ≤ a.size ∧ k ≤ b.size ∧ i = .int .i64 k ∧ a.data.toList.take k = b.data.toList.take k ∧ ∃ d, wr = w.drewN d) (fun i _ => a.size - (intOf i).toNat)
  case atStart => exact ⟨0, Nat.zero_le _, Nat.zero_le _, rfl, by simp, 0, rfl⟩
  case round =>
    obtain ⟨k, hka, hkb, rfl, ht, d, rfl⟩ := hrel
    have Ht := Lib.hid ht
    clear ht
    by_cases h1 : k < a.size
    · by_cases h2 : k < b.size
      · have hlt : (k : Int) < (a.size : Int) := by omega
        have hlt2 : (k : Int) < (b.size : Int) := by omega
        rcases Nat.lt_trichotomy a[k].toNat b[k].toNat with q | q | q
        · have e := ord_lt h1 h2 Ht.out q
          have E := Lib.hid e
          clear e
          go_wp2
          go_quiet (fail)
          go_wp2
          go_ret
          rw [E.out, World.drewN_drewN]
          exact ⟨rfl, _, rfl⟩
        · have e := ord_eq h1 h2 Ht.out q
          have E := Lib.hid e
          have n1 : ¬ a[k].toNat < b[k].toNat := by omega
          have n2 : ¬ b[k].toNat < a[k].toNat := by omega
          clear e q
          go_wp2
          go_quiet (fail)
          go_wp2
          go_quiet (fail)
          go_wp2
          go_roundw
          case rel => exact ⟨k + 1, by omega, by omega, by go_num, E.out, _, rfl⟩
          case measure => simp [intOf]; omega
        · have e := ord_gt h1 h2 Ht.out q
          have E := Lib.hid e
          have n1 : ¬ a[k].toNat < b[k].toNat := by omega
          clear e
          go_wp2
          go_quiet (fail)
          go_wp2
          go_quiet (fail)
          go_wp2
          go_ret
          rw [E.out, World.drewN_drewN, World.drewN_drewN]
          exact ⟨rfl, _, rfl⟩
      · obtain rfl : k = b.size := by omega
        have e := ord_end2 h1 Ht.out
        have E := Lib.hid e
        clear e
        have n1 : ¬ a.size < b.size := by omega
        go_wp2
        go_ret
        rw [E.out]
        exact ⟨rfl, _, rfl⟩
    · obtain rfl : k = a.size := by omega
      by_cases h2 : a.size < b.size
      · have e := ord_end1 h2 Ht.out
        have E := Lib.hid e
        clear e
        go_wp2
        go_ret
        rw [E.out]
        exact ⟨rfl, _, rfl⟩
      · have e := ord_end0 (by omega) Ht.out
        have E := Lib.hid e
        clear e
        have n1 : ¬ b.size < a.size := by omega
        go_wp2
        go_ret
        rw [E.out]
        exact ⟨rfl, _, rfl⟩
theorem Order_any (a b : ByteArray) (ha : a.size ≤ maxLen) (hb : b.size ≤ maxLen) (w : World) : Calls Try.prog 52 #[.string a, .string b] w fun e w' => e = .returned (.int .i64 (cmpB a b)) ∧ ∃ n, w' = w.drewN n := by
  have h := Lib.hid (order_any a b ha hb w)
  clear ha hb
  go_enter Try.func52, Try.ntmps52
  go_wp2_with fail
  refine h.out.mono ?_
  rintro e w' ⟨rfl, n, rfl⟩
  go_wp2
  go_ret
  exact ⟨rfl, _, rfl⟩
theorem Order_below (a b : ByteArray) (ha : a.size ≤ maxLen) (hb : b.size ≤ maxLen) (w : World) : Calls Try.prog 52 #[.string a, .string b] w fun e w' => e = .returned (.int .i64 (cmpB a b)) ∧ Below w.heap.size w w' :=
  (Order_any a b ha hb w).mono fun e w' ⟨h, n, hn⟩ => ⟨h, by rw [hn]; exact below_drewN (Below.refl _ _) n⟩
end Go.Proofs.Ytbnodgoccmhjkaa.Tithe
