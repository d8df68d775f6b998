/- Bytes in memory; the walks of package sum and of its reference. -/
import Derived.Test.YtkdipflmmlnbpaaDoorCoreSum
import Derived.Test.YtkdipflmmlnbpaaDoorRows
import Derived.WalkKit
import Derived.ProofKit
import Derived.OpenShut
import Derived.Lib.Hide
import Derived.Outline
import Derived.OwnWalk
import Derived.Deep.AppendLies
import Derived.Laws.AppendOwnNone
import Derived.Lib.QuietBelow
import Derived.BigQuiet
import Derived.WalkLawsBesides
namespace Go.Proofs.YtkdipflmmlnbpaaDoor.Tithe
open Go.RowKit Go.Sort
set_option linter.unusedVariables false
/-- a slice value that holds the bytes l -/
def IsBytes (w : World) (v : Value) (l : List Nat) : Prop :=
  (∀ x ∈ l, x < 256) ∧ ∃ a c, v = .slice a l.length c ∧ l.length ≤ c ∧ c ≤ maxLen ∧ (l ≠ [] → ∃ b off, a = some ⟨b, off, none⟩ ∧ ∀ i, i < l.length → w.cell? ⟨b, off + i, none⟩ = some (.int .u8 (l.getD i 0)))
theorem IsBytes.below {w w' : World} {v : Value} {l : List Nat} (h : IsBytes w v l) (hb : Below w.heap.size w w') : IsBytes w' v l := by
  obtain ⟨h8, a, c, e, h1, h2, h3⟩ := h
  refine ⟨h8, a, c, e, h1, h2, fun hne => ?_⟩
  obtain ⟨b, off, ha, hc⟩ := h3 hne
  refine ⟨b, off, ha, fun i hi => ?_⟩
  have := hc i hi
  rw [hb.cell (block_lt_of_cell this)]; exact this
/-- a new block of bytes, whole -/
theorem isBytes_new (w : World) (l : List Nat) (cells : Array Value) (t : TypeId) (fr : Nat × Nat) (hl : ∀ x ∈ l, x < 256) (hlen : l.length ≤ maxLen) (hc : cells = (l.map fun x => Value.int .u8 (x : Nat)).toArray) :
    IsBytes (w.alloc (.cells cells t fr)) (.slice (some ⟨w.heap.size, 0, none⟩) l.length l.length) l := by
  refine ⟨hl, _, _, rfl, Nat.le_refl _, hlen, fun _ => ⟨_, _, rfl, fun i hi => ?_⟩⟩
  subst hc
  rw [Nat.zero_add, World.cell?_alloc_mark]
  simp [hi]
theorem IsBytes.take {w : World} {a : Option Addr} {n c : Nat} {l : List Nat} (h : IsBytes w (.slice a n c) l) (k : Nat) (hk : k ≤ l.length) : IsBytes w (.slice a k c) (l.take k) := by
  obtain ⟨h8, a', c', e, h1, h2, h3⟩ := h
  injection e with e1 e2 e3
  subst e1 e2 e3
  have hl : (l.take k).length = k := by simp; omega
  refine ⟨fun x hx => h8 x (List.mem_of_mem_take hx), a, c, by rw [hl], by omega, h2, fun hne => ?_⟩
  obtain ⟨b, off, ha, hc⟩ := h3 (by rintro rfl; simp at hne)
  refine ⟨b, off, ha, fun i hi => ?_⟩
  rw [hl] at hi
  rw [hc i (by omega)]
  simp [List.getD_eq_getElem?_getD, hi]
theorem IsBytes.drop {w : World} {b off n c : Nat} {l : List Nat} (h : IsBytes w (.slice (some ⟨b, off, none⟩) n c) l) (k : Nat) (hk : k ≤ l.length) : IsBytes w (.slice (some ⟨b, off + k, none⟩) (n - k) (c - k)) (l.drop k) := by
  obtain ⟨h8, a', c', e, h1, h2, h3⟩ := h
  injection e with e1 e2 e3
  subst e1 e2 e3
  refine ⟨fun x hx => h8 x (List.mem_of_mem_drop hx), _, _, by rw [List.length_drop], by rw [List.length_drop]; omega, by omega, fun hne => ⟨_, _, rfl, fun i hi => ?_⟩⟩
  obtain ⟨b', off', ha, hc⟩ := h3 (by rintro rfl; simp at hne)
  injection ha with ha
  injection ha with e1 e2
  subst e1 e2
  rw [List.length_drop] at hi
  rw [show off + k + i = off + (k + i) from by omega, hc (k + i) (by omega)]
  simp [List.getD_eq_getElem?_getD]
theorem isBytes_empty (w : World) (a : Option Addr) (c : Nat) (hc : c ≤ maxLen) : IsBytes w (.slice a 0 c) [] := ⟨by simp, a, c, rfl, by simp, hc, fun h => absurd rfl h⟩
theorem below_of_eq {w w' : World} (h : w = w') : Below w.heap.size w w' := by subst h; exact Below.refl _ _
set_option linter.unusedVariables false
theorem u8info : (Tryd.prog.info? 5).map (fun i => (i.zero, i.size, i.bytes)) = some (some (.int .u8 0), 1, 1) := by kernel_rfl
def cellsOfL (l : List Nat) : List Value := l.map fun x => Value.int .u8 (x : Nat)
theorem cellsOfL_get (l : List Nat) (j : Nat) (u : Value) (h : (cellsOfL l)[j]? = some u) : j < l.length ∧ u = .int .u8 (l.getD j 0) := by
  unfold cellsOfL at h
  simp only [List.getElem?_map, Option.map_eq_some_iff] at h
  obtain ⟨x, hx, rfl⟩ := h
  have hj : j < l.length := by
    rcases Nat.lt_or_ge j l.length with h | h
    · exact h
    · rw [List.getElem?_eq_none h] at hx; cases hx
  refine ⟨hj, ?_⟩
  rw [List.getD_eq_getElem?_getD, hx]; rfl
theorem cellsOfL_one (l : List Nat) : ∀ u ∈ cellsOfL l, u.oneCell' = true := by
  intro u hu
  unfold cellsOfL at hu
  simp only [List.mem_map] at hu
  obtain ⟨x, _, rfl⟩ := hu
  rfl
theorem plain_add (b off j : Nat) : (⟨b, off, none⟩ : Addr).add j = ⟨b, off + j, none⟩ := by unfold Addr.add; split <;> simp_all
/-- what the call owns is bytes -/
theorem isBytes_own {w : World} {base : Nat} {v : Value} {l : List Nat} (h : w.ownsRow base 5 1 v l.length (cellsOfL l)) (h8 : ∀ x ∈ l, x < 256) : IsBytes w v l := by
  rcases Nat.eq_zero_or_pos l.length with e | e
  · obtain rfl : l = [] := List.eq_nil_of_length_eq_zero e
    rcases h.2 with ⟨rfl, _⟩ | ⟨g, cap, cur, rfl, _, _, _, hm, _⟩
    · exact ⟨h8, _, _, rfl, by simp, by simp, fun h => absurd rfl h⟩
    · exact ⟨h8, _, _, rfl, by simp, hm, fun h => absurd rfl h⟩
  · obtain ⟨g, cap, rfl, hb, hlt⟩ := h.form e
    have hc := h.cells (g := g) rfl
    obtain ⟨_, h2⟩ := h
    have hcm : l.length ≤ cap ∧ cap ≤ maxLen := by
      rcases h2 with ⟨h, _⟩ | ⟨g', cap', cur, h, _, _, hn, hm, _⟩
      · cases h
      · injection h with _ _ h; subst h; exact ⟨hn, hm⟩
    refine ⟨h8, _, _, rfl, hcm.1, hcm.2, fun _ => ⟨_, _, rfl, fun i hi => ?_⟩⟩
    have := hc i (.int .u8 (l.getD i 0)) (by unfold cellsOfL; simp [List.getD_eq_getElem?_getD, hi])
    rw [plain_add] at this
    exact this
theorem cells_set (l : List Nat) (i y : Nat) : (cellsOfL l).set i (.int .u8 (y : Nat)) = cellsOfL (l.set i y) := by
  unfold cellsOfL; rw [List.map_set]
def TabOk (w : World) : Prop := ∀ i, i < 16 → w.cell? ⟨0, i, none⟩ = some (.int .u32 (half i))

set_option linter.unusedVariables false
theorem TabOk.below {w w' : World} (h : TabOk w) (hb : Below w.heap.size w w') : TabOk w' := fun i hi => by
  have := h i hi
  rw [hb.cell (block_lt_of_cell this)]; exact this
theorem xorNot (c : Nat) (h : c < 4294967296) : 4294967295 ^^^ c = 4294967295 - c := by
  apply Nat.eq_of_testBit_eq
  intro i
  rw [show (4294967295 : Nat) - c = 2 ^ 32 - (c + 1) from by omega, Nat.testBit_two_pow_sub_succ h, Nat.testBit_xor, show (4294967295 : Nat) = 2 ^ 32 - 1 from rfl, Nat.testBit_two_pow_sub_one]
  by_cases hi : i < 32
  · simp [hi]
  · have : c < 2 ^ i := Nat.lt_of_lt_of_le h (show 2 ^ 32 ≤ 2 ^ i from Nat.pow_le_pow_right (by omega) (by omega))
    simp [hi, Nat.testBit_lt_two_pow this]
theorem bitsNot (c : Nat) (h : c < 4294967296) : bits BinOp.xor IntKind.u32 IntKind.u32.max (c : Int) = ((4294967295 - c : Nat) : Int) := by
  rw [show IntKind.u32.max = ((4294967295 : Nat) : Int) from rfl, u32_xor_nat _ _ (by omega) h, xorNot c h]

set_option maxHeartbeats 400000 in
theorem more_walk (c : Nat) (hc : c < 4294967296) (b off cap : Nat) (l : List Nat) (w : World) (hl : l.length ≤ cap) (hm : cap ≤ maxLen) (h8 : ∀ x ∈ l, x < 256)
    (hcell : ∀ i, i < l.length → w.cell? ⟨b, off + i, none⟩ = some (.int .u8 (l.getD i 0))) (htab : TabOk w) :
    Calls Tryd.prog 38 #[.int .u32 c, .slice (some ⟨b, off, none⟩) l.length cap] w fun e w' => e = .returned (.int .u32 (moreOf c l)) ∧ w = w' := by
  unfold maxLen at hm
  have Hcell := Lib.hid hcell
  have h8' := Lib.hid h8
  have Htab := Lib.hid htab
  clear hcell h8 htab
  have e0 := Lib.hid (bitsNot c hc)
  go_enter Tryd.func38, Tryd.ntmps38
  go_wp2
  go_loop [0, 11] (fun d i => ∃ k : Nat, k ≤ l.length ∧ i = .int .i64 k ∧ d = .int .u32 (runBytes (4294967295 - c) (l.take k))) (fun _ i => l.length - (intOf i).toNat)
  case atStart => exact ⟨0, Nat.zero_le _, rfl, by rw [e0.out]; simp [runBytes]⟩
  case round =>
    obtain ⟨k, hk, rfl, rfl⟩ := hrel
    by_cases hlt : k < l.length
    · obtain ⟨x, ex⟩ : ∃ x, l.getD k 0 = x := ⟨_, rfl⟩
      have hx8 : x < 256 := by subst ex; rw [List.getD_eq_getElem?_getD, List.getElem?_eq_getElem hlt]; exact h8'.out _ (List.getElem_mem _)
      have hx := Hcell.out k hlt
      rw [ex] at hx
      have hstep : runBytes (4294967295 - c) (l.take (k + 1)) = byteStep (runBytes (4294967295 - c) (l.take k)) x := by
        rw [List.take_succ_eq_append_getElem hlt]
        simp only [runBytes, List.foldl_append, List.foldl_cons, List.foldl_nil]
        rw [← ex, List.getD_eq_getElem?_getD, List.getElem?_eq_getElem hlt]; rfl
      have hs : runBytes (4294967295 - c) (l.take k) < 4294967296 := runBytes_lt (by omega) (fun y hy => h8'.out y (List.mem_of_mem_take hy))
      have Hstep := Lib.hid hstep
      clear hstep ex
      generalize runBytes (4294967295 - c) (l.take k) = s at *
      obtain ⟨s1, es1, hs1⟩ : ∃ s1, s ^^^ x = s1 ∧ s1 < 4294967296 := ⟨_, rfl, xor_lt32 hs (by omega)⟩
      obtain ⟨s2, es2, hs2⟩ : ∃ s2, four s1 = s2 ∧ s2 < 4294967296 := ⟨_, rfl, four_lt hs1⟩
      obtain ⟨s3, es3, hs3⟩ : ∃ s3, four s2 = s3 ∧ s3 < 4294967296 := ⟨_, rfl, four_lt hs2⟩
      obtain ⟨j1, ej1, hj1⟩ : ∃ j, s1 &&& 15 = j ∧ j < 16 := ⟨_, rfl, Nat.lt_of_le_of_lt Nat.and_le_right (by omega)⟩
      obtain ⟨j2, ej2, hj2⟩ : ∃ j, s2 &&& 15 = j ∧ j < 16 := ⟨_, rfl, Nat.lt_of_le_of_lt Nat.and_le_right (by omega)⟩
      have t1 := Htab.out j1 hj1
      have t2 := Htab.out j2 hj2
      obtain ⟨h1, eh1, hh1⟩ : ∃ h, half j1 = h ∧ h < 4294967296 := ⟨_, rfl, half_lt _⟩
      obtain ⟨h2, eh2, hh2⟩ : ∃ h, half j2 = h ∧ h < 4294967296 := ⟨_, rfl, half_lt _⟩
      rw [eh1] at t1
      rw [eh2] at t2
      have E1 : bits BinOp.xor IntKind.u32 (s : Int) (x : Int) = (s1 : Int) := by rw [u32_xor_nat _ _ hs (by omega), es1]
      have E2 : bits BinOp.and IntKind.u32 (s1 : Int) 15 = (j1 : Int) := by rw [← ej1]; exact u32_and_nat _ 15 hs1 (by omega)
      have E3 : bits BinOp.and IntKind.u32 (s2 : Int) 15 = (j2 : Int) := by rw [← ej2]; exact u32_and_nat _ 15 hs2 (by omega)
      have E4 : bits BinOp.xor IntKind.u32 ((s1 : Int) / 16) (h1 : Int) = (s2 : Int) := by
        rw [show ((s1 : Int) / 16) = ((s1 / 16 : Nat) : Int) from by omega, u32_xor_nat _ _ (by omega) hh1, ← es2, ← eh1, ← ej1, four, Nat.shiftRight_eq_div_pow]
      have E5 : bits BinOp.xor IntKind.u32 ((s2 : Int) / 16) (h2 : Int) = (s3 : Int) := by
        rw [show ((s2 : Int) / 16) = ((s2 / 16 : Nat) : Int) from by omega, u32_xor_nat _ _ (by omega) hh2, ← es3, ← eh2, ← ej2, four, Nat.shiftRight_eq_div_pow]
      have HH := Lib.hid (And.intro es1 (And.intro es2 (And.intro es3 (And.intro ej1 (And.intro ej2 (And.intro eh1 eh2))))))
      clear es1 es2 es3 ej1 ej2 eh1 eh2
      go_wp2
      go_round
      case rel => exact ⟨k + 1, by omega, by go_num, by obtain ⟨a1, a2, a3, -, -, -, -⟩ := HH.out; rw [Hstep.out, byteStep, a1, a2, a3]⟩
      case measure => simp [intOf]; omega
    · obtain rfl : k = l.length := by omega
      have hs : runBytes (4294967295 - c) l < 4294967296 := runBytes_lt (by omega) h8'.out
      have e1 := bitsNot _ hs
      rw [List.take_length]
      have Hm : Hid (moreOf c l = 4294967295 - runBytes (4294967295 - c) l) := rfl
      generalize runBytes (4294967295 - c) l = s at *
      have E1 := Lib.hid e1
      clear e1
      go_wp2
      go_ret
      rw [Hm.out]
      exact ⟨congrArg (fun z => Ending.returned (.int .u32 z)) E1.out, rfl⟩

set_option maxHeartbeats 400000 in
theorem more_nil (c : Nat) (hc : c < 4294967296) (a : Option Addr) (cap : Nat) (w : World) :
    Calls Tryd.prog 38 #[.int .u32 c, .slice a 0 cap] w fun e w' => e = .returned (.int .u32 (moreOf c [])) ∧ w = w' := by
  have e0 := Lib.hid (bitsNot c hc)
  have e1 := Lib.hid (bitsNot (4294967295 - c) (by omega))
  go_enter Tryd.func38, Tryd.ntmps38
  go_wp2
  go_loop [0, 11] (fun d i => i = .int .i64 0 ∧ d = .int .u32 (4294967295 - c : Nat)) (fun _ i => 0)
  case atStart => exact ⟨rfl, by rw [e0.out]⟩
  case round =>
    obtain ⟨rfl, rfl⟩ := hrel
    go_wp2
    go_ret
    exact ⟨congrArg (fun z => Ending.returned (.int .u32 z)) e1.out, rfl⟩

theorem more_any (c : Nat) (hc : c < 4294967296) (v : Value) (l : List Nat) (w : World) (hb : IsBytes w v l) (htab : TabOk w) :
    Calls Tryd.prog 38 #[.int .u32 c, v] w fun e w' => e = .returned (.int .u32 (moreOf c l)) ∧ w = w' := by
  obtain ⟨h8, a, cap, rfl, hl, hm, hx⟩ := hb
  by_cases he : l = []
  · subst he; exact more_nil c hc a cap w
  · obtain ⟨b, off, rfl, hcell⟩ := hx he
    exact more_walk c hc b off cap l w hl hm h8 hcell htab

theorem of_any (v : Value) (l : List Nat) (w : World) (hb : IsBytes w v l) (htab : TabOk w) :
    Calls Tryd.prog 34 #[v] w fun e w' => e = .returned (.int .u32 (moreOf 0 l)) ∧ w = w' := by
  have hb' := Lib.hid hb
  have ht := Lib.hid htab
  clear hb htab
  go_enter Tryd.func34, Tryd.ntmps34
  go_wp2_with (go_at_call 38; refine (more_any 0 (by omega) _ _ _ hb'.out ht.out).mono ?_; rintro e w' ⟨rfl, rfl⟩)
  go_ret
  exact ⟨rfl, rfl⟩

set_option maxHeartbeats 400000 in
theorem run_walk (c : Nat) (hc : c < 4294967296) (b off cap : Nat) (l : List Nat) (w : World) (hl : l.length ≤ cap) (hm : cap ≤ maxLen) (h8 : ∀ x ∈ l, x < 256)
    (hcell : ∀ i, i < l.length → w.cell? ⟨b, off + i, none⟩ = some (.int .u8 (l.getD i 0))) :
    Calls Tryd.prog 37 #[.int .u32 c, .slice (some ⟨b, off, none⟩) l.length cap] w fun e w' => e = .returned (.int .u32 (refRun c l)) ∧ w = w' := by
  unfold maxLen at hm
  have Hcell := Lib.hid hcell
  have h8' := Lib.hid h8
  clear hcell h8
  go_enter Tryd.func37, Tryd.ntmps37
  go_wp2
  go_loop [0, 5] (fun d i => ∃ k : Nat, k ≤ l.length ∧ i = .int .i64 k ∧ d = .int .u32 (refRun c (l.take k))) (fun _ i => l.length - (intOf i).toNat)
  case atStart => exact ⟨0, Nat.zero_le _, rfl, by simp [refRun]⟩
  case round =>
    obtain ⟨k, hk, rfl, rfl⟩ := hrel
    by_cases hlt : k < l.length
    · obtain ⟨x, ex⟩ : ∃ x, l.getD k 0 = x := ⟨_, rfl⟩
      have hx8 : x < 256 := by subst ex; rw [List.getD_eq_getElem?_getD, List.getElem?_eq_getElem hlt]; exact h8'.out _ (List.getElem_mem _)
      have hx := Hcell.out k hlt
      rw [ex] at hx
      have hstep : refRun c (l.take (k + 1)) = bits8 8 (refRun c (l.take k) ^^^ x) := by
        rw [List.take_succ_eq_append_getElem hlt]
        simp only [refRun, List.foldl_append, List.foldl_cons, List.foldl_nil]
        rw [← ex, List.getD_eq_getElem?_getD, List.getElem?_eq_getElem hlt]; rfl
      have hs : refRun c (l.take k) < 4294967296 := refRun_lt hc (fun y hy => h8'.out y (List.mem_of_mem_take hy))
      have Hstep := Lib.hid hstep
      clear hstep ex
      generalize refRun c (l.take k) = s at *
      obtain ⟨s1, es1, hs1⟩ : ∃ s1, s ^^^ x = s1 ∧ s1 < 4294967296 := ⟨_, rfl, xor_lt32 hs (by omega)⟩
      have E1 : bits BinOp.xor IntKind.u32 (s : Int) (x : Int) = (s1 : Int) := by rw [u32_xor_nat _ _ hs (by omega), es1]
      rw [es1] at Hstep
      clear es1
      go_wp2
      go_loop [0, 6] (fun d i => ∃ j : Nat, j ≤ 8 ∧ i = .int .i64 j ∧ d = .int .u32 (bits8 j s1)) (fun _ i => 8 - (intOf i).toNat)
      case atStart => exact ⟨0, Nat.zero_le _, rfl, rfl⟩
      case round =>
        obtain ⟨j, hj, rfl, rfl⟩ := hrel
        by_cases hj8 : j < 8
        · have hr : bits8 j s1 < 4294967296 := bits8_lt j hs1
          have Hs : Hid (bits8 (j + 1) s1 = bitStep (bits8 j s1)) := rfl
          generalize bits8 j s1 = r at *
          go_wp2
          · go_round
            case rel => exact ⟨j + 1, by omega, by go_num, by rw [Hs.out, bitStep, if_pos (by have := ‹((r : Int) % 2 == 1) = true›; simp at this; omega), show ((r : Int) / 2) = ((r / 2 : Nat) : Int) from by omega]; exact congrArg _ (u32_xor_nat _ 2197175160 (by omega) (by omega))⟩
            case measure => simp [intOf]; omega
          · go_round
            case rel => exact ⟨j + 1, by omega, by go_num, by rw [Hs.out, bitStep, if_neg (by have := ‹((r : Int) % 2 == 1) = false›; simp at this; omega)]; go_num⟩
            case measure => simp [intOf]; omega
        · obtain rfl : j = 8 := by omega
          have Hs : Hid (bits8 8 s1 = refRun c (l.take (k + 1))) := Hstep.out.symm
          generalize bits8 8 s1 = r at *
          go_wp2
          go_round
          case rel => exact ⟨k + 1, by omega, by go_num, by rw [Hs.out]⟩
          case measure => simp [intOf]; omega
    · obtain rfl : k = l.length := by omega
      rw [List.take_length]
      have Hs : Hid (∀ s, s = refRun c l → Ending.returned (.int .u32 (s : Nat)) = .returned (.int .u32 (refRun c l))) := by rintro s rfl; rfl
      obtain ⟨s, es⟩ : ∃ s, s = refRun c l := ⟨_, rfl⟩
      rw [← es]
      have Hs' := Lib.hid (Hs.out s es)
      clear es Hs
      go_wp2
      go_ret
      exact ⟨Hs'.out, rfl⟩

theorem run_nil (c : Nat) (a : Option Addr) (cap : Nat) (w : World) :
    Calls Tryd.prog 37 #[.int .u32 c, .slice a 0 cap] w fun e w' => e = .returned (.int .u32 (refRun c [])) ∧ w = w' := by
  go_enter Tryd.func37, Tryd.ntmps37
  go_wp2
  go_loop [0, 5] (fun d i => i = .int .i64 0 ∧ d = .int .u32 c) (fun _ i => 0)
  case atStart => exact ⟨rfl, rfl⟩
  case round =>
    obtain ⟨rfl, rfl⟩ := hrel
    go_wp2
    go_ret
    exact ⟨rfl, rfl⟩

theorem run_any (c : Nat) (hc : c < 4294967296) (v : Value) (l : List Nat) (w : World) (hb : IsBytes w v l) :
    Calls Tryd.prog 37 #[.int .u32 c, v] w fun e w' => e = .returned (.int .u32 (refRun c l)) ∧ w = w' := by
  obtain ⟨h8, a, cap, rfl, hl, hm, hx⟩ := hb
  by_cases he : l = []
  · subst he; exact run_nil c a cap w
  · obtain ⟨b, off, rfl, hcell⟩ := hx he
    exact run_walk c hc b off cap l w hl hm h8 hcell

theorem refOf_any (v : Value) (l : List Nat) (w : World) (hb : IsBytes w v l) :
    Calls Tryd.prog 30 #[v] w fun e w' => e = .returned (.int .u32 (4294967295 - refRun 4294967295 l : Nat)) ∧ w = w' := by
  have hb' := Lib.hid hb
  have hr : refRun 4294967295 l < 4294967296 := refRun_lt (by omega) hb.1
  have Hr : Hid (∀ r, r = refRun 4294967295 l → bits BinOp.xor IntKind.u32 (r : Int) 4294967295 = ((4294967295 - r : Nat) : Int)) := by
    intro r e
    rw [← xorNot r (by omega), Nat.xor_comm]
    exact u32_xor_nat r 4294967295 (by omega) (by omega)
  clear hb
  obtain ⟨r, er⟩ : ∃ r, r = refRun 4294967295 l := ⟨_, rfl⟩
  have E := Lib.hid (Hr.out r er)
  rw [← er] at hr
  have hcall := fun W (h : IsBytes W v l) => run_any 4294967295 (by omega) v l W h
  rw [← er] at hcall ⊢
  clear er Hr
  have hcall' := Lib.hid hcall
  clear hcall
  go_enter Tryd.func30, Tryd.ntmps30
  go_wp2_with (go_at_call 37; refine (hcall'.out _ hb'.out).mono ?_; rintro e w' ⟨rfl, rfl⟩)
  go_ret
  exact ⟨congrArg (fun z => Ending.returned (.int .u32 z)) E.out, rfl⟩

theorem k15 : bits BinOp.and IntKind.u64 15 31 = 15 := by decide +kernel
theorem k17 : bits BinOp.and IntKind.u64 (IntKind.u64.wrap (-15)) 31 = 17 := by decide +kernel
theorem rot15_any (c : Nat) (hc : c < 4294967296) (w : World) :
    Calls Tryd.prog 39 #[.int .u32 c, .int .i64 15] w fun e w' => e = .returned (.int .u32 (rot15 c)) ∧ w = w' := by
  have k := k15
  have E : bits BinOp.or IntKind.u32 ((c : Int) * 32768 % 4294967296) ((c : Int) / 131072) = (rot15 c : Nat) := by
    rw [← or15 hc, show ((c : Int) * 32768 % 4294967296) = ((c * 32768 % 4294967296 : Nat) : Int) from by omega, show ((c : Int) / 131072) = ((c / 131072 : Nat) : Int) from by omega]
    exact u32_or_nat _ _ (by omega) (by omega)
  have E' := Lib.hid E
  clear E
  go_enter Tryd.func39, Tryd.ntmps39
  go_wp2
  go_ret
  exact ⟨congrArg (fun z => Ending.returned (.int .u32 z)) E'.out, rfl⟩
theorem rot17_any (c : Nat) (hc : c < 4294967296) (w : World) :
    Calls Tryd.prog 39 #[.int .u32 c, .int .i64 (-15)] w fun e w' => e = .returned (.int .u32 (rot17 c)) ∧ w = w' := by
  have k := k17
  have E : bits BinOp.or IntKind.u32 ((c : Int) * 131072 % 4294967296) ((c : Int) / 32768) = (rot17 c : Nat) := by
    rw [← or17 hc, show ((c : Int) * 131072 % 4294967296) = ((c * 131072 % 4294967296 : Nat) : Int) from by omega, show ((c : Int) / 32768) = ((c / 32768 : Nat) : Int) from by omega]
    exact u32_or_nat _ _ (by omega) (by omega)
  have E' := Lib.hid E
  clear E
  go_enter Tryd.func39, Tryd.ntmps39
  go_wp2
  go_ret
  exact ⟨congrArg (fun z => Ending.returned (.int .u32 z)) E'.out, rfl⟩
theorem ret_u32 {a b : Int} (h : a = b) : Ending.returned (.int .u32 a) = .returned (.int .u32 b) := by rw [h]
theorem mask_any (c : Nat) (hc : c < 4294967296) (w : World) :
    Calls Tryd.prog 35 #[.int .u32 c] w fun e w' => e = .returned (.int .u32 (maskOf c)) ∧ w = w' := by
  have hr := rot17_lt hc
  have E : Hid ((((rot17 c : Nat) : Int) + 2726488792) % 4294967296 = ((maskOf c : Nat) : Int)) := by unfold Hid maskOf; omega
  have hcall := Lib.hid (fun W => rot17_any c hc W)
  generalize rot17 c = r at *
  generalize maskOf c = m at *
  go_enter Tryd.func35, Tryd.ntmps35
  go_wp2_with (go_at_call 39; refine (hcall.out _).mono ?_; rintro e w' ⟨rfl, rfl⟩)
  go_ret
  exact ⟨ret_u32 E.out, rfl⟩
theorem refmask_any (c : Nat) (hc : c < 4294967296) (w : World) :
    Calls Tryd.prog 31 #[.int .u32 c] w fun e w' => e = .returned (.int .u32 (maskOf c)) ∧ w = w' := by
  have E : Hid (((c : Int) / 32768 + (c : Int) % 32768 * 131072 + 2726488792) % 4294967296 = ((maskOf c : Nat) : Int)) := by unfold Hid maskOf rot17; omega
  generalize maskOf c = m at *
  go_enter Tryd.func31, Tryd.ntmps31
  go_wp2
  go_ret
  exact ⟨ret_u32 E.out, rfl⟩
theorem run_append_nil (w : World) (c : Nat) : (Builtin.append_ #[29, 29] 29 #[.slice none 0 0, .slice none 0 c]).run Tryd.prog w = .ok (.slice none 0 0) w := by
  obtain ⟨i0, hi0, hz0, hz1, hz2⟩ := info_parts u8info
  simp [Builtin.append_, run_underlying Tryd.underlying29, sizeOf, typeInfo, hi0, Builtin.lenOf, Builtin.firstCells]
theorem copy_any (v : Value) (l : List Nat) (w : World) (hb : IsBytes w v l) (hlen : l.length ≤ 140737488355328) :
    Calls Tryd.prog 17 #[v] w fun e w' => ∃ v', e = .returned v' ∧ w'.ownsRow w.heap.size 5 1 v' l.length (cellsOfL l) ∧ Below w.heap.size w w' := by
  obtain ⟨i0, hi0, hz0, hz1, hz2⟩ := info_parts u8info
  obtain ⟨h8, a, c, rfl, h1, h2, h3⟩ := hb
  cases a with
  | none =>
    obtain rfl : l = [] := by
      by_cases he : l = []
      · exact he
      · obtain ⟨b, off, ha, _⟩ := h3 he; cases ha
    have hrun := fun W => run_append_nil W c
    go_enter Tryd.func17, Tryd.ntmps17
    go_wp2
    go_ret
    exact ⟨_, rfl, World.ownsRow_nil w _ _ _, Below.refl _ _⟩
  | some ad =>
    have hn : ∀ j u, (cellsOfL l)[j]? = some u → w.cell? (ad.add j) = some u := by
      intro j u hu
      obtain ⟨hj, rfl⟩ := cellsOfL_get l j u hu
      obtain ⟨b, off, ha, hc⟩ := h3 (by rintro rfl; simp at hj)
      injection ha with ha
      subst ha
      rw [plain_add]; exact hc j hj
    go_enter Tryd.func17, Tryd.ntmps17
    go_wp2_with (first | (at_builtin; (refine wpList_append_own _ rfl (.tmp 4) (.tmp 5) 29 rfl w.heap.size 5 i0 (.int .u8 0) 1 1 Tryd.underlying29 hi0 hz0 hz1 hz2 rfl (by decide) (.slice none 0 0) 0 [] rfl (World.ownsRow_nil w _ _ _) ad l.length c (cellsOfL l) rfl (by simp [cellsOfL]) hn (cellsOfL_one l) (by simp only [maxLen]; omega) (by omega) (Nat.le_refl _) ?_); intro v' w' hown hg hnil))
    go_ret
    refine ⟨v', rfl, by simpa using hown, (Below.refl _ _).grown hg (Nat.le_refl _) (fun k hk => by cases hk)⟩
/-- bytes as a string -/
theorem conv_bytes {w : World} {v : Value} {l : List Nat} (h : IsBytes w v l) : (convert 29 9 v).run Tryd.prog w = .ok (.string (strOfNums (l.map Int.ofNat))) w := by
  obtain ⟨h8, a, c, rfl, h1, h2, h3⟩ := h
  by_cases he : l = []
  · subst he
    cases a with
    | none => exact run_convert_bytes_nil w _ _ Tryd.underlying29 Tryd.underlying5 0 c _ Tryd.underlying9
    | some x =>
      have hl : (loadCells x 0).run Tryd.prog w = .ok (([] : List Int).map (Value.int .u8)).toArray w := run_loadCells_list (P := Tryd.prog) w x [] (fun j v hj => by simp at hj)
      show (convert 29 9 (.slice (some x) 0 c)).run Tryd.prog w = _
      rw [run_convert_bytes_string w _ _ _ _ 0 c Tryd.underlying29 Tryd.underlying5 Tryd.underlying9, run_bytesToString w _ 0 c [] hl]
      rfl
  · obtain ⟨b, off, rfl, hc⟩ := h3 he
    refine run_convert_bytes_arg w _ _ Tryd.underlying29 Tryd.underlying5 b off l.length c _ (by simp) (fun i hi => ?_) _ Tryd.underlying9
    rw [hc i hi]
    simp [List.getD_eq_getElem?_getD, hi]
theorem same_true (v v' : Value) (l : List Nat) (w : World) (h : IsBytes w v l) (h' : IsBytes w v' l) :
    Calls Tryd.prog 19 #[v, v'] w fun e w' => e = .returned (.bool true) ∧ w = w' := by
  have k1 := conv_bytes h
  have k2 := conv_bytes h'
  clear h h'
  generalize strOfNums (l.map Int.ofNat) = s at *
  go_enter Tryd.func19, Tryd.ntmps19
  go_wp2
  go_ret
  exact ⟨rfl, rfl⟩
end Go.Proofs.YtkdipflmmlnbpaaDoor.Tithe
