/- Keys of the store: Check, Cmp, the order of texts: walked. -/
import Derived.Test.YthjjelomlgmllaaSlice
import Derived.Test.YthjjelomlgmllaaKeyPlain
import Derived.Deep.RegionWith
import Derived.Deep.RegionHeld3
namespace Go.Proofs.Ythjjelomlgmllaa.Tithe
open Go.RowKit Go.Sort
set_option linter.unusedVariables false
def Ky.cells (x : Ky) : List Value := [.string x.u, .int .i64 x.s, .int .i64 x.k]
def En.cells (x : En) : List Value := [.string x.key.u, .int .i64 x.key.s, .int .i64 x.key.k, .string x.val]
def Ky.v (x : Ky) : Value := .agg #[.string x.u, .int .i64 x.s, .int .i64 x.k]
def En.v (x : En) : Value := .agg #[.string x.key.u, .int .i64 x.key.s, .int .i64 x.key.k, .string x.val]
theorem bcmp_any (a b : ByteArray) (w : World) : Calls Try.prog 89 #[.string a, .string b] w fun e w' => e = .returned (.int .i64 (cmpB a b)) ∧ w' = w := by
  go_enter Try.func89, Try.ntmps89
  go_wp2
  rw [run_callFunc_extern Try.func92 (by kernel_rfl) (by kernel_rfl) (by kernel_rfl) (e := Extern.BytealgCompare.compare) (by kernel_rfl), Lib.run_compareString]
  simp only [Result.andThen]
  rw [Oper.upon_value]
  go_wp2
  go_ret
  exact ⟨rfl, rfl⟩
theorem scmp_any (a b : ByteArray) (w : World) : Calls Try.prog 78 #[.string a, .string b] w fun e w' => e = .returned (.int .i64 (cmpB a b)) ∧ w' = w := by
  go_enter Try.func78, Try.ntmps78
  go_wp2_with fail
  refine (bcmp_any a b w).mono ?_
  rintro e w' ⟨rfl, rfl⟩
  go_wp2
  go_ret
  exact ⟨rfl, rfl⟩
theorem nan_any (x : Int) (w : World) : Calls Try.prog 90 #[.int .i64 x] w fun e w' => e = .returned (.bool false) ∧ w' = w := by
  go_enter Try.func90, Try.ntmps90
  go_wp2
  go_ret
  exact ⟨by simp, rfl⟩
theorem icmp_any (x y : Int) (w : World) : Calls Try.prog 79 #[.int .i64 x, .int .i64 y] w fun e w' => e = .returned (.int .i64 (cmpI x y)) ∧ w' = w := by
  go_enter Try.func79, Try.ntmps79
  go_wp2_with (first | (refine (nan_any _ _).mono ?_; rintro e w' ⟨rfl, rfl⟩))
  all_goals (go_ret; refine ⟨?_, rfl⟩; unfold cmpI; (repeat' split) <;> first | rfl | (exfalso; omega))
/-- cmp.Or of three numbers -/
def or3 (x y z : Int) : Int := if x ≠ 0 then x else if y ≠ 0 then y else z
theorem or3_any (b : Nat) (x y z : Int) (w : World) (h0 : w.cell? ⟨b, 0, none⟩ = some (.int .i64 x)) (h1 : w.cell? ⟨b, 1, none⟩ = some (.int .i64 y)) (h2 : w.cell? ⟨b, 2, none⟩ = some (.int .i64 z)) :
    Calls Try.prog 77 #[.slice (some ⟨b, 0, none⟩) 3 3] w fun e w' => e = .returned (.int .i64 (or3 x y z)) ∧ w' = w := by
  go_enter Try.func77, Try.ntmps77
  go_wp2
  go_loop [8] (fun i => ∃ k : Nat, k ≤ 3 ∧ i = .int .i64 k ∧ (1 ≤ k → x = 0) ∧ (2 ≤ k → y = 0) ∧ (3 ≤ k → z = 0)) (fun i => 3 - (intOf i).toNat)
  case atStart => exact ⟨0, by omega, rfl, by omega, by omega, by omega⟩
  case round =>
    obtain ⟨k, hk, rfl, q1, q2, q3⟩ := hrel
    have Q1 := Lib.hid q1
    have Q2 := Lib.hid q2
    have Q3 := Lib.hid q3
    clear q1 q2 q3
    rcases (by omega : k = 0 ∨ k = 1 ∨ k = 2 ∨ k = 3) with rfl | rfl | rfl | rfl
    · by_cases hx : x = 0
      · subst hx
        go_wp2
        go_round
        case rel => exact ⟨1, by omega, rfl, by simp, by omega, by omega⟩
        case measure => simp [intOf]
      · have Hx := Lib.hid hx
        go_wp2
        go_ret
        have e : or3 x y z = x := by unfold or3; rw [if_pos Hx.out]
        rw [e]; exact ⟨rfl, rfl⟩
    · have hx := Q1.out (by omega)
      subst hx
      by_cases hx : y = 0
      · subst hx
        go_wp2
        go_round
        case rel => exact ⟨2, by omega, rfl, by simp, by simp, by omega⟩
        case measure => simp [intOf]
      · have Hx := Lib.hid hx
        go_wp2
        go_ret
        have e : or3 0 y z = y := by unfold or3; rw [if_neg (by omega), if_pos Hx.out]
        rw [e]; exact ⟨rfl, rfl⟩
    · have hx := Q1.out (by omega)
      have hy := Q2.out (by omega)
      subst hx hy
      by_cases hx : z = 0
      · subst hx
        go_wp2
        go_round
        case rel => exact ⟨3, by omega, rfl, by simp, by simp, by simp⟩
        case measure => simp [intOf]
      · have Hx := Lib.hid hx
        go_wp2
        go_ret
        have e : or3 0 0 z = z := by unfold or3; rw [if_neg (by omega), if_neg (by omega)]
        rw [e]; exact ⟨rfl, rfl⟩
    · have hx := Q1.out (by omega)
      have hy := Q2.out (by omega)
      have hz := Q3.out (by omega)
      subst hx hy hz
      go_wp2
      go_ret
      exact ⟨rfl, rfl⟩
theorem or3_new (W : World) (t : TypeId) (g : Nat) (hg : g = W.heap.size) (x y z : Int) :
    Calls Try.prog 77 #[.slice (some ⟨g, 0, none⟩) 3 3] (W.alloc (.cells #[.int .i64 x, .int .i64 y, .int .i64 z] t)).drew fun e w' => e = .returned (.int .i64 (or3 x y z)) ∧ w' = (W.alloc (.cells #[.int .i64 x, .int .i64 y, .int .i64 z] t)).drew := by
  subst hg
  exact or3_any _ x y z _ (by show (W.alloc _).cell? _ = _; rw [World.cell?_alloc_mark]; rfl) (by show (W.alloc _).cell? _ = _; rw [World.cell?_alloc_mark]; rfl) (by show (W.alloc _).cell? _ = _; rw [World.cell?_alloc_mark]; rfl)
theorem or3_cmpK (a b : Ky) : or3 (cmpB a.u b.u) (cmpI b.s a.s) (cmpI b.k a.k) = cmpK a b := rfl
/-- Check of a key -/
def chkK (x : Ky) : Int := if okK x then 0 else 30
theorem chkK_bad {u : ByteArray} {s k : Int} (h : (u.size : Int) < 1 ∨ 64 < (u.size : Int) ∨ s < 0 ∨ 1099511627776 < s ∨ k < 1 ∨ 3 < k) : chkK ⟨u, s, k⟩ = 30 := by
  unfold chkK okK
  rw [if_neg]
  simp only [Bool.and_eq_true, decide_eq_true_eq]
  omega
theorem chkK_ok {u : ByteArray} {s k : Int} (h : ¬ ((u.size : Int) < 1 ∨ 64 < (u.size : Int) ∨ s < 0 ∨ 1099511627776 < s ∨ k < 1 ∨ 3 < k)) : chkK ⟨u, s, k⟩ = 0 := by
  unfold chkK okK
  rw [if_pos]
  simp only [Bool.and_eq_true, decide_eq_true_eq]
  omega
theorem kcheck_any (x : Ky) (w : World) : Calls Try.prog 71 #[x.v] w fun e w' => e = .returned (.int .i64 (chkK x)) ∧ Below w.heap.size w w' := by
  obtain ⟨u, s, k⟩ := x
  unfold Ky.v
  go_enter Try.func71, Try.ntmps71
  go_wp2
  all_goals go_ret
  all_goals refine ⟨?_, (Below.refl _ _).alloc (Nat.le_refl _) _⟩
  all_goals first
    | (rw [chkK_bad (by omega)]; rfl)
    | (rw [chkK_ok (by omega)]; rfl)
set_option maxHeartbeats 1600000 in
theorem kcmp_any (x y : Ky) (w : World) : Calls Try.prog 56 #[x.v, y.v] w fun e w' => e = .returned (.int .i64 (cmpK x y)) ∧ Below w.heap.size w w' := by
  rw [← or3_cmpK]
  obtain ⟨u, s, k⟩ := x
  obtain ⟨u', s', k'⟩ := y
  unfold Ky.v
  dsimp only
  go_enter Try.func56, Try.ntmps56
  have hc1 := fun w => scmp_any u u' w
  have hc2 := fun w => icmp_any s' s w
  have hc3 := fun w => icmp_any k' k w
  generalize cmpB u u' = x at *
  generalize cmpI s' s = y at *
  generalize cmpI k' k = z at *
  have Hc1 := Lib.hid hc1
  have Hc2 := Lib.hid hc2
  have Hc3 := Lib.hid hc3
  clear hc1 hc2 hc3
  go_wp2_with fail
  have hbw : Below w.heap.size w ((w.alloc (.cells #[.string u, .int .i64 s, .int .i64 k] 75)).alloc (.cells #[.string u', .int .i64 s', .int .i64 k'] 75)) := ((Below.refl _ _).alloc (Nat.le_refl _) _).alloc (by simp) _
  have hsz : ((w.alloc (.cells #[.string u, .int .i64 s, .int .i64 k] 75)).alloc (.cells #[.string u', .int .i64 s', .int .i64 k'] 75)).heap.size = w.heap.size + 1 + 1 := by simp
  have p0 : ((w.alloc (.cells #[.string u, .int .i64 s, .int .i64 k] 75)).alloc (.cells #[.string u', .int .i64 s', .int .i64 k'] 75)).cell? ⟨w.heap.size, 0, none⟩ = some (.string u) := by rw [World.cell?_alloc_lt _ _ _ (by simp), World.cell?_alloc_mark]; rfl
  have p1 : ((w.alloc (.cells #[.string u, .int .i64 s, .int .i64 k] 75)).alloc (.cells #[.string u', .int .i64 s', .int .i64 k'] 75)).cell? ⟨w.heap.size, 1, none⟩ = some (.int .i64 s) := by rw [World.cell?_alloc_lt _ _ _ (by simp), World.cell?_alloc_mark]; rfl
  have p2 : ((w.alloc (.cells #[.string u, .int .i64 s, .int .i64 k] 75)).alloc (.cells #[.string u', .int .i64 s', .int .i64 k'] 75)).cell? ⟨w.heap.size, 2, none⟩ = some (.int .i64 k) := by rw [World.cell?_alloc_lt _ _ _ (by simp), World.cell?_alloc_mark]; rfl
  have q0 : ((w.alloc (.cells #[.string u, .int .i64 s, .int .i64 k] 75)).alloc (.cells #[.string u', .int .i64 s', .int .i64 k'] 75)).cell? ⟨w.heap.size + 1, 0, none⟩ = some (.string u') := by rw [show w.heap.size + 1 = (w.alloc (.cells #[.string u, .int .i64 s, .int .i64 k] 75)).heap.size by simp, World.cell?_alloc_mark]; rfl
  have q1 : ((w.alloc (.cells #[.string u, .int .i64 s, .int .i64 k] 75)).alloc (.cells #[.string u', .int .i64 s', .int .i64 k'] 75)).cell? ⟨w.heap.size + 1, 1, none⟩ = some (.int .i64 s') := by rw [show w.heap.size + 1 = (w.alloc (.cells #[.string u, .int .i64 s, .int .i64 k] 75)).heap.size by simp, World.cell?_alloc_mark]; rfl
  have q2 : ((w.alloc (.cells #[.string u, .int .i64 s, .int .i64 k] 75)).alloc (.cells #[.string u', .int .i64 s', .int .i64 k'] 75)).cell? ⟨w.heap.size + 1, 2, none⟩ = some (.int .i64 k') := by rw [show w.heap.size + 1 = (w.alloc (.cells #[.string u, .int .i64 s, .int .i64 k] 75)).heap.size by simp, World.cell?_alloc_mark]; rfl
  have Hbw := Lib.hid hbw
  have Hsz := Lib.hid hsz
  clear hbw hsz
  generalize ((w.alloc (.cells #[.string u, .int .i64 s, .int .i64 k] 75)).alloc (.cells #[.string u', .int .i64 s', .int .i64 k'] 75)) = W at *
  go_region_held3 (fun w' => w'.cell? ⟨w.heap.size, 0, none⟩ = some (.string u) ∧ w'.cell? ⟨w.heap.size, 1, none⟩ = some (.int .i64 s) ∧ w'.cell? ⟨w.heap.size, 2, none⟩ = some (.int .i64 k) ∧ w'.cell? ⟨w.heap.size + 1, 0, none⟩ = some (.string u') ∧ w'.cell? ⟨w.heap.size + 1, 1, none⟩ = some (.int .i64 s') ∧ w'.cell? ⟨w.heap.size + 1, 2, none⟩ = some (.int .i64 k'))
    (first | go_keep | skip)
    ((first
    | (go_at_call 78; (with_reducible refine (Hc1.out _).mono ?_); rintro e w' ⟨rfl, rfl⟩)
    | (go_at_call 79; (with_reducible refine (Hc2.out _).mono ?_); rintro e w' ⟨rfl, rfl⟩)
    | (go_at_call 79; (with_reducible refine (Hc3.out _).mono ?_); rintro e w' ⟨rfl, rfl⟩)
    | (go_at_call 77; refine (or3_new _ _ _ rfl x y z).mono ?_; rintro e w' ⟨rfl, rfl⟩)))
  go_wp2
  go_ret
  exact ⟨rfl, ((Hbw.out.alloc Hbw.out.size _)).drew⟩
/-- the order of texts, as the document's answer reckons it -/
theorem ordL (a b : List UInt8) : ∀ (k : Nat), k ≤ a.length → k ≤ b.length → a.take k = b.take k → Lib.compareBytes a b = Lib.compareBytes (a.drop k) (b.drop k)
  | 0, _, _, _ => by simp
  | k + 1, h1, h2, h => by
    match a, b, h1, h2, h with
    | x :: a, y :: b, h1, h2, h =>
      simp only [List.take_succ_cons, List.cons.injEq] at h
      obtain ⟨rfl, h⟩ := h
      rw [List.drop_succ_cons, List.drop_succ_cons, ← ordL a b k (by simpa using h1) (by simpa using h2) h]
      show (if x < x then (-1 : Int) else if x < x then 1 else _) = _
      rw [if_neg (UInt8.lt_irrefl x), if_neg (UInt8.lt_irrefl x)]
theorem ba_len (a : ByteArray) : a.data.toList.length = a.size := by obtain ⟨⟨l⟩⟩ := a; rfl
theorem ba_get {a : ByteArray} {k : Nat} (h : k < a.size) : a.data.toList[k]'(by rw [ba_len]; exact h) = a[k] := by
  obtain ⟨⟨l⟩⟩ := a; rfl
theorem ord_drop {a b : ByteArray} {k : Nat} (h1 : k < a.size) (h2 : k < b.size) (ht : a.data.toList.take k = b.data.toList.take k) : cmpB a b = if a[k] < b[k] then -1 else if b[k] < a[k] then 1 else Lib.compareBytes (a.data.toList.drop (k + 1)) (b.data.toList.drop (k + 1)) := by
  unfold cmpB
  rw [ordL _ _ k (by rw [ba_len]; omega) (by rw [ba_len]; omega) ht, List.drop_eq_getElem_cons (by rw [ba_len]; exact h1), List.drop_eq_getElem_cons (l := b.data.toList) (by rw [ba_len]; exact h2), ba_get h1, ba_get h2]
  rfl
theorem ord_lt {a b : ByteArray} {k : Nat} (h1 : k < a.size) (h2 : k < b.size) (ht : a.data.toList.take k = b.data.toList.take k) (h : a[k].toNat < b[k].toNat) : cmpB a b = -1 := by
  rw [ord_drop h1 h2 ht, if_pos (UInt8.lt_iff_toNat_lt.2 h)]
theorem ord_gt {a b : ByteArray} {k : Nat} (h1 : k < a.size) (h2 : k < b.size) (ht : a.data.toList.take k = b.data.toList.take k) (h : b[k].toNat < a[k].toNat) : cmpB a b = 1 := by
  rw [ord_drop h1 h2 ht, if_neg (fun q => by have := UInt8.lt_iff_toNat_lt.1 q; omega), if_pos (UInt8.lt_iff_toNat_lt.2 h)]
theorem ord_eq {a b : ByteArray} {k : Nat} (h1 : k < a.size) (h2 : k < b.size) (ht : a.data.toList.take k = b.data.toList.take k) (h : a[k].toNat = b[k].toNat) : a.data.toList.take (k + 1) = b.data.toList.take (k + 1) := by
  rw [List.take_succ_eq_append_getElem (by rw [ba_len]; exact h1), List.take_succ_eq_append_getElem (l := b.data.toList) (by rw [ba_len]; exact h2), ht, ba_get h1, ba_get h2, UInt8.toNat_inj.1 h]
theorem ord_end1 {a b : ByteArray} (h2 : a.size < b.size) (ht : a.data.toList.take a.size = b.data.toList.take a.size) : cmpB a b = -1 := by
  unfold cmpB
  rw [ordL _ _ a.size (by rw [ba_len]; omega) (by rw [ba_len]; omega) ht, List.drop_of_length_le (by rw [ba_len]; omega), List.drop_eq_getElem_cons (l := b.data.toList) (by rw [ba_len]; exact h2)]
  rfl
theorem ord_end2 {a b : ByteArray} (h2 : b.size < a.size) (ht : a.data.toList.take b.size = b.data.toList.take b.size) : cmpB a b = 1 := by
  rw [cmpB_swap b a, ord_end1 h2 ht.symm]; rfl
theorem ord_end0 {a b : ByteArray} (h2 : a.size = b.size) (ht : a.data.toList.take a.size = b.data.toList.take a.size) : cmpB a b = 0 := by
  unfold cmpB
  rw [ordL _ _ a.size (by rw [ba_len]; omega) (by rw [ba_len]; omega) ht, List.drop_of_length_le (by rw [ba_len]; omega), List.drop_of_length_le (by rw [ba_len]; omega)]
  rfl
set_option maxHeartbeats 800000 in
theorem order_any (a b : ByteArray) (ha : a.size ≤ maxLen) (hb : b.size ≤ maxLen) (w : World) : Calls Try.prog 85 #[.string a, .string b] w fun e w' => e = .returned (.int .i64 (cmpB a b)) ∧ ∃ n, w' = w.drewN n := by
  have ha2 : (a.size : Int) ≤ 9223372036854775807 := by unfold maxLen at ha; omega
  have hb2 : (b.size : Int) ≤ 9223372036854775807 := by unfold maxLen at hb; omega
  clear ha hb
  go_enter Try.func85, Try.ntmps85
  have Ha := Lib.hid ha2
  have Hb := Lib.hid hb2
  go_wp2
  go_loopw [5] (fun i wr => ∃ k : Nat, k ≤ a.size ∧ k ≤ b.size ∧ i = .int .i64 k ∧ a.data.toList.take k = b.data.toList.take k ∧ ∃ d, wr = w.drewN d) (fun i _ => a.size - (intOf i).toNat)
  case atStart => exact ⟨0, Nat.zero_le _, Nat.zero_le _, rfl, by simp, 0, rfl⟩
  case round =>
    obtain ⟨k, hka, hkb, rfl, ht, d, rfl⟩ := hrel
    have Ht := Lib.hid ht
    clear ht
    by_cases h1 : k < a.size
    · by_cases h2 : k < b.size
      · have hlt : (k : Int) < (a.size : Int) := by omega
        have hlt2 : (k : Int) < (b.size : Int) := by omega
        rcases Nat.lt_trichotomy a[k].toNat b[k].toNat with q | q | q
        · have e := ord_lt h1 h2 Ht.out q
          have E := Lib.hid e
          clear e
          go_wp2
          go_quiet (fail)
          go_wp2
          go_ret
          rw [E.out, World.drewN_drewN]
          exact ⟨rfl, _, rfl⟩
        · have e := ord_eq h1 h2 Ht.out q
          have E := Lib.hid e
          have n1 : ¬ a[k].toNat < b[k].toNat := by omega
          have n2 : ¬ b[k].toNat < a[k].toNat := by omega
          clear e q
          go_wp2
          go_quiet (fail)
          go_wp2
          go_quiet (fail)
          go_wp2
          go_roundw
          case rel => exact ⟨k + 1, by omega, by omega, by go_num, E.out, _, rfl⟩
          case measure => simp [intOf]; omega
        · have e := ord_gt h1 h2 Ht.out q
          have E := Lib.hid e
          have n1 : ¬ a[k].toNat < b[k].toNat := by omega
          clear e
          go_wp2
          go_quiet (fail)
          go_wp2
          go_quiet (fail)
          go_wp2
          go_ret
          rw [E.out, World.drewN_drewN, World.drewN_drewN]
          exact ⟨rfl, _, rfl⟩
      · obtain rfl : k = b.size := by omega
        have e := ord_end2 h1 Ht.out
        have E := Lib.hid e
        clear e
        have n1 : ¬ a.size < b.size := by omega
        go_wp2
        go_ret
        rw [E.out]
        exact ⟨rfl, _, rfl⟩
    · obtain rfl : k = a.size := by omega
      by_cases h2 : a.size < b.size
      · have e := ord_end1 h2 Ht.out
        have E := Lib.hid e
        clear e
        go_wp2
        go_ret
        rw [E.out]
        exact ⟨rfl, _, rfl⟩
      · have e := ord_end0 (by omega) Ht.out
        have E := Lib.hid e
        clear e
        have n1 : ¬ b.size < a.size := by omega
        go_wp2
        go_ret
        rw [E.out]
        exact ⟨rfl, _, rfl⟩
end Go.Proofs.Ythjjelomlgmllaa.Tithe
