/- Bytes in memory; the walks of package sum and of its reference. -/
import Derived.Test.YtbnodgoccmhjkaaCoreSum
import Derived.Test.YtbnodgoccmhjkaaRows
import Derived.WalkKit
import Derived.ProofKit
import Derived.OpenShut
import Derived.Lib.Hide
import Derived.Outline
import Derived.OwnWalk
import Derived.Deep.AppendLies
import Derived.Laws.AppendOwnNone
import Derived.Lib.QuietBelow
import Derived.BigQuiet
import Derived.WalkLawsBesides
namespace Go.Proofs.Ytbnodgoccmhjkaa.Tithe
open Go.RowKit Go.Sort
set_option linter.unusedVariables false
/-- a slice value that holds the bytes l -/
def IsBytes (w : World) (v : Value) (l : List Nat) : Prop :=
  (∀ x ∈ l, x < 256) ∧ ∃ a c, v = .slice a l.length c ∧ l.length ≤ c ∧ c ≤ maxLen ∧ (l ≠ [] → ∃ b off, a = some ⟨b, off, none⟩ ∧ ∀ i, i < l.length → w.cell? ⟨b, off + i, none⟩ = some (.int .u8 (l.getD i 0)))
theorem IsBytes.below {w w' : World} {v : Value} {l : List Nat} (h : IsBytes w v l) (hb : Below w.heap.size w w') : IsBytes w' v l := by
  obtain ⟨h8, a, c, e, h1, h2, h3⟩ := h
  refine ⟨h8, a, c, e, h1, h2, fun hne => ?_⟩
  obtain ⟨b, off, ha, hc⟩ := h3 hne
  refine ⟨b, off, ha, fun i hi => ?_⟩
  have := hc i hi
  rw [hb.cell (block_lt_of_cell this)]; exact this
/-- a new block of bytes, whole -/
theorem isBytes_new (w : World) (l : List Nat) (cells : Array Value) (t : TypeId) (fr : Nat × Nat) (hl : ∀ x ∈ l, x < 256) (hlen : l.length ≤ maxLen) (hc : cells = (l.map fun x => Value.int .u8 (x : Nat)).toArray) :
    IsBytes (w.alloc (.cells cells t fr)) (.slice (some ⟨w.heap.size, 0, none⟩) l.length l.length) l := by
  refine ⟨hl, _, _, rfl, Nat.le_refl _, hlen, fun _ => ⟨_, _, rfl, fun i hi => ?_⟩⟩
  subst hc
  rw [Nat.zero_add, World.cell?_alloc_mark]
  simp [hi]
theorem IsBytes.take {w : World} {a : Option Addr} {n c : Nat} {l : List Nat} (h : IsBytes w (.slice a n c) l) (k : Nat) (hk : k ≤ l.length) : IsBytes w (.slice a k c) (l.take k) := by
  obtain ⟨h8, a', c', e, h1, h2, h3⟩ := h
  injection e with e1 e2 e3
  subst e1 e2 e3
  have hl : (l.take k).length = k := by simp; omega
  refine ⟨fun x hx => h8 x (List.mem_of_mem_take hx), a, c, by rw [hl], by omega, h2, fun hne => ?_⟩
  obtain ⟨b, off, ha, hc⟩ := h3 (by rintro rfl; simp at hne)
  refine ⟨b, off, ha, fun i hi => ?_⟩
  rw [hl] at hi
  rw [hc i (by omega)]
  simp [List.getD_eq_getElem?_getD, hi]
theorem IsBytes.drop {w : World} {b off n c : Nat} {l : List Nat} (h : IsBytes w (.slice (some ⟨b, off, none⟩) n c) l) (k : Nat) (hk : k ≤ l.length) : IsBytes w (.slice (some ⟨b, off + k, none⟩) (n - k) (c - k)) (l.drop k) := by
  obtain ⟨h8, a', c', e, h1, h2, h3⟩ := h
  injection e with e1 e2 e3
  subst e1 e2 e3
  refine ⟨fun x hx => h8 x (List.mem_of_mem_drop hx), _, _, by rw [List.length_drop], by rw [List.length_drop]; omega, by omega, fun hne => ⟨_, _, rfl, fun i hi => ?_⟩⟩
  obtain ⟨b', off', ha, hc⟩ := h3 (by rintro rfl; simp at hne)
  injection ha with ha
  injection ha with e1 e2
  subst e1 e2
  rw [List.length_drop] at hi
  rw [show off + k + i = off + (k + i) from by omega, hc (k + i) (by omega)]
  simp [List.getD_eq_getElem?_getD]
theorem isBytes_empty (w : World) (a : Option Addr) (c : Nat) (hc : c ≤ maxLen) : IsBytes w (.slice a 0 c) [] := ⟨by simp, a, c, rfl, by simp, hc, fun h => absurd rfl h⟩
theorem below_of_eq {w w' : World} (h : w = w') : Below w.heap.size w w' := by subst h; exact Below.refl _ _
set_option linter.unusedVariables false
theorem u8info : (Try.prog.info? 5).map (fun i => (i.zero, i.size, i.bytes)) = some (some (.int .u8 0), 1, 1) := by kernel_rfl
def cellsOfL (l : List Nat) : List Value := l.map fun x => Value.int .u8 (x : Nat)
theorem cellsOfL_get (l : List Nat) (j : Nat) (u : Value) (h : (cellsOfL l)[j]? = some u) : j < l.length ∧ u = .int .u8 (l.getD j 0) := by
  unfold cellsOfL at h
  simp only [List.getElem?_map, Option.map_eq_some_iff] at h
  obtain ⟨x, hx, rfl⟩ := h
  have hj : j < l.length := by
    rcases Nat.lt_or_ge j l.length with h | h
    · exact h
    · rw [List.getElem?_eq_none h] at hx; cases hx
  refine ⟨hj, ?_⟩
  rw [List.getD_eq_getElem?_getD, hx]; rfl
theorem cellsOfL_one (l : List Nat) : ∀ u ∈ cellsOfL l, u.oneCell' = true := by
  intro u hu
  unfold cellsOfL at hu
  simp only [List.mem_map] at hu
  obtain ⟨x, _, rfl⟩ := hu
  rfl
theorem plain_add (b off j : Nat) : (⟨b, off, none⟩ : Addr).add j = ⟨b, off + j, none⟩ := by unfold Addr.add; split <;> simp_all
/-- what the call owns is bytes -/
theorem isBytes_own {w : World} {base : Nat} {v : Value} {l : List Nat} (h : w.ownsRow base 5 1 v l.length (cellsOfL l)) (h8 : ∀ x ∈ l, x < 256) : IsBytes w v l := by
  rcases Nat.eq_zero_or_pos l.length with e | e
  · obtain rfl : l = [] := List.eq_nil_of_length_eq_zero e
    rcases h.2 with ⟨rfl, _⟩ | ⟨g, cap, cur, rfl, _, _, _, hm, _⟩
    · exact ⟨h8, _, _, rfl, by simp, by simp, fun h => absurd rfl h⟩
    · exact ⟨h8, _, _, rfl, by simp, hm, fun h => absurd rfl h⟩
  · obtain ⟨g, cap, rfl, hb, hlt⟩ := h.form e
    have hc := h.cells (g := g) rfl
    obtain ⟨_, h2⟩ := h
    have hcm : l.length ≤ cap ∧ cap ≤ maxLen := by
      rcases h2 with ⟨h, _⟩ | ⟨g', cap', cur, h, _, _, hn, hm, _⟩
      · cases h
      · injection h with _ _ h; subst h; exact ⟨hn, hm⟩
    refine ⟨h8, _, _, rfl, hcm.1, hcm.2, fun _ => ⟨_, _, rfl, fun i hi => ?_⟩⟩
    have := hc i (.int .u8 (l.getD i 0)) (by unfold cellsOfL; simp [List.getD_eq_getElem?_getD, hi])
    rw [plain_add] at this
    exact this
theorem cells_set (l : List Nat) (i y : Nat) : (cellsOfL l).set i (.int .u8 (y : Nat)) = cellsOfL (l.set i y) := by
  unfold cellsOfL; rw [List.map_set]
theorem xorNot (c : Nat) (h : c < 4294967296) : 4294967295 ^^^ c = 4294967295 - c := by
  apply Nat.eq_of_testBit_eq
  intro i
  rw [show (4294967295 : Nat) - c = 2 ^ 32 - (c + 1) from by omega, Nat.testBit_two_pow_sub_succ h, Nat.testBit_xor, show (4294967295 : Nat) = 2 ^ 32 - 1 from rfl, Nat.testBit_two_pow_sub_one]
  by_cases hi : i < 32
  · simp [hi]
  · have : c < 2 ^ i := Nat.lt_of_lt_of_le h (show 2 ^ 32 ≤ 2 ^ i from Nat.pow_le_pow_right (by omega) (by omega))
    simp [hi, Nat.testBit_lt_two_pow this]
theorem bitsNot (c : Nat) (h : c < 4294967296) : bits BinOp.xor IntKind.u32 IntKind.u32.max (c : Int) = ((4294967295 - c : Nat) : Int) := by
  rw [show IntKind.u32.max = ((4294967295 : Nat) : Int) from rfl, u32_xor_nat _ _ (by omega) h, xorNot c h]

set_option maxHeartbeats 400000 in
theorem run_walk (c : Nat) (hc : c < 4294967296) (b off cap : Nat) (l : List Nat) (w : World) (hl : l.length ≤ cap) (hm : cap ≤ maxLen) (h8 : ∀ x ∈ l, x < 256)
    (hcell : ∀ i, i < l.length → w.cell? ⟨b, off + i, none⟩ = some (.int .u8 (l.getD i 0))) :
    Calls Try.prog 76 #[.int .u32 c, .slice (some ⟨b, off, none⟩) l.length cap] w fun e w' => e = .returned (.int .u32 (refRun c l)) ∧ w = w' := by
  unfold maxLen at hm
  have Hcell := Lib.hid hcell
  have h8' := Lib.hid h8
  clear hcell h8
  go_enter Try.func76, Try.ntmps76
  go_wp2
  go_loop [0, 5] (fun d i => ∃ k : Nat, k ≤ l.length ∧ i = .int .i64 k ∧ d = .int .u32 (refRun c (l.take k))) (fun _ i => l.length - (intOf i).toNat)
  case atStart => exact ⟨0, Nat.zero_le _, rfl, by simp [refRun]⟩
  case round =>
    obtain ⟨k, hk, rfl, rfl⟩ := hrel
    by_cases hlt : k < l.length
    · obtain ⟨x, ex⟩ : ∃ x, l.getD k 0 = x := ⟨_, rfl⟩
      have hx8 : x < 256 := by subst ex; rw [List.getD_eq_getElem?_getD, List.getElem?_eq_getElem hlt]; exact h8'.out _ (List.getElem_mem _)
      have hx := Hcell.out k hlt
      rw [ex] at hx
      have hstep : refRun c (l.take (k + 1)) = bits8 8 (refRun c (l.take k) ^^^ x) := by
        rw [List.take_succ_eq_append_getElem hlt]
        simp only [refRun, List.foldl_append, List.foldl_cons, List.foldl_nil]
        rw [← ex, List.getD_eq_getElem?_getD, List.getElem?_eq_getElem hlt]; rfl
      have hs : refRun c (l.take k) < 4294967296 := refRun_lt hc (fun y hy => h8'.out y (List.mem_of_mem_take hy))
      have Hstep := Lib.hid hstep
      clear hstep ex
      generalize refRun c (l.take k) = s at *
      obtain ⟨s1, es1, hs1⟩ : ∃ s1, s ^^^ x = s1 ∧ s1 < 4294967296 := ⟨_, rfl, xor_lt32 hs (by omega)⟩
      have E1 : bits BinOp.xor IntKind.u32 (s : Int) (x : Int) = (s1 : Int) := by rw [u32_xor_nat _ _ hs (by omega), es1]
      rw [es1] at Hstep
      clear es1
      go_wp2
      go_loop [0, 6] (fun d i => ∃ j : Nat, j ≤ 8 ∧ i = .int .i64 j ∧ d = .int .u32 (bits8 j s1)) (fun _ i => 8 - (intOf i).toNat)
      case atStart => exact ⟨0, Nat.zero_le _, rfl, rfl⟩
      case round =>
        obtain ⟨j, hj, rfl, rfl⟩ := hrel
        by_cases hj8 : j < 8
        · have hr : bits8 j s1 < 4294967296 := bits8_lt j hs1
          have Hs : Hid (bits8 (j + 1) s1 = bitStep (bits8 j s1)) := rfl
          generalize bits8 j s1 = r at *
          go_wp2
          · go_round
            case rel => exact ⟨j + 1, by omega, by go_num, by rw [Hs.out, bitStep, if_pos (by have := ‹((r : Int) % 2 == 1) = true›; simp at this; omega), show ((r : Int) / 2) = ((r / 2 : Nat) : Int) from by omega]; exact congrArg _ (u32_xor_nat _ 2197175160 (by omega) (by omega))⟩
            case measure => simp [intOf]; omega
          · go_round
            case rel => exact ⟨j + 1, by omega, by go_num, by rw [Hs.out, bitStep, if_neg (by have := ‹((r : Int) % 2 == 1) = false›; simp at this; omega)]; go_num⟩
            case measure => simp [intOf]; omega
        · obtain rfl : j = 8 := by omega
          have Hs : Hid (bits8 8 s1 = refRun c (l.take (k + 1))) := Hstep.out.symm
          generalize bits8 8 s1 = r at *
          go_wp2
          go_round
          case rel => exact ⟨k + 1, by omega, by go_num, by rw [Hs.out]⟩
          case measure => simp [intOf]; omega
    · obtain rfl : k = l.length := by omega
      rw [List.take_length]
      have Hs : Hid (∀ s, s = refRun c l → Ending.returned (.int .u32 (s : Nat)) = .returned (.int .u32 (refRun c l))) := by rintro s rfl; rfl
      obtain ⟨s, es⟩ : ∃ s, s = refRun c l := ⟨_, rfl⟩
      rw [← es]
      have Hs' := Lib.hid (Hs.out s es)
      clear es Hs
      go_wp2
      go_ret
      exact ⟨Hs'.out, rfl⟩

theorem run_nil (c : Nat) (a : Option Addr) (cap : Nat) (w : World) :
    Calls Try.prog 76 #[.int .u32 c, .slice a 0 cap] w fun e w' => e = .returned (.int .u32 (refRun c [])) ∧ w = w' := by
  go_enter Try.func76, Try.ntmps76
  go_wp2
  go_loop [0, 5] (fun d i => i = .int .i64 0 ∧ d = .int .u32 c) (fun _ i => 0)
  case atStart => exact ⟨rfl, rfl⟩
  case round =>
    obtain ⟨rfl, rfl⟩ := hrel
    go_wp2
    go_ret
    exact ⟨rfl, rfl⟩

theorem run_any (c : Nat) (hc : c < 4294967296) (v : Value) (l : List Nat) (w : World) (hb : IsBytes w v l) :
    Calls Try.prog 76 #[.int .u32 c, v] w fun e w' => e = .returned (.int .u32 (refRun c l)) ∧ w = w' := by
  obtain ⟨h8, a, cap, rfl, hl, hm, hx⟩ := hb
  by_cases he : l = []
  · subst he; exact run_nil c a cap w
  · obtain ⟨b, off, rfl, hcell⟩ := hx he
    exact run_walk c hc b off cap l w hl hm h8 hcell

theorem refOf_any (v : Value) (l : List Nat) (w : World) (hb : IsBytes w v l) :
    Calls Try.prog 56 #[v] w fun e w' => e = .returned (.int .u32 (4294967295 - refRun 4294967295 l : Nat)) ∧ w = w' := by
  have hb' := Lib.hid hb
  have hr : refRun 4294967295 l < 4294967296 := refRun_lt (by omega) hb.1
  have Hr : Hid (∀ r, r = refRun 4294967295 l → bits BinOp.xor IntKind.u32 (r : Int) 4294967295 = ((4294967295 - r : Nat) : Int)) := by
    intro r e
    rw [← xorNot r (by omega), Nat.xor_comm]
    exact u32_xor_nat r 4294967295 (by omega) (by omega)
  clear hb
  obtain ⟨r, er⟩ : ∃ r, r = refRun 4294967295 l := ⟨_, rfl⟩
  have E := Lib.hid (Hr.out r er)
  rw [← er] at hr
  have hcall := fun W (h : IsBytes W v l) => run_any 4294967295 (by omega) v l W h
  rw [← er] at hcall ⊢
  clear er Hr
  have hcall' := Lib.hid hcall
  clear hcall
  go_enter Try.func56, Try.ntmps56
  go_wp2_with (go_at_call 76; refine (hcall'.out _ hb'.out).mono ?_; rintro e w' ⟨rfl, rfl⟩)
  go_ret
  exact ⟨congrArg (fun z => Ending.returned (.int .u32 z)) E.out, rfl⟩

theorem ret_u32 {a b : Int} (h : a = b) : Ending.returned (.int .u32 a) = .returned (.int .u32 b) := by rw [h]
theorem refmask_any (c : Nat) (hc : c < 4294967296) (w : World) :
    Calls Try.prog 55 #[.int .u32 c] w fun e w' => e = .returned (.int .u32 (maskOf c)) ∧ w = w' := by
  have E : Hid (((c : Int) / 32768 + (c : Int) % 32768 * 131072 + 2726488792) % 4294967296 = ((maskOf c : Nat) : Int)) := by unfold Hid maskOf rot17; omega
  generalize maskOf c = m at *
  go_enter Try.func55, Try.ntmps55
  go_wp2
  go_ret
  exact ⟨ret_u32 E.out, rfl⟩
end Go.Proofs.Ytbnodgoccmhjkaa.Tithe
