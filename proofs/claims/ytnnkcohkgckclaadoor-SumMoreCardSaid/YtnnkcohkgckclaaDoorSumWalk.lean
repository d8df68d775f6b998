/- The walks of package sum and of its reference. -/
import Derived.Test.YtnnkcohkgckclaaDoorSumSpec
import Derived.Test.YtnnkcohkgckclaaDoorRows
import Derived.WalkKit
import Derived.ProofKit
import Derived.OpenShut
import Derived.Lib.Hide
import Derived.Outline
namespace Go.Proofs.YtnnkcohkgckclaaDoor.Tithe
open Go.RowKit
set_option linter.unusedVariables false
/-- a slice value that holds the bytes l -/
def IsBytes (w : World) (v : Value) (l : List Nat) : Prop :=
  (∀ x ∈ l, x < 256) ∧ ∃ a c, v = .slice a l.length c ∧ l.length ≤ c ∧ c ≤ maxLen ∧ (l ≠ [] → ∃ b off, a = some ⟨b, off, none⟩ ∧ ∀ i, i < l.length → w.cell? ⟨b, off + i, none⟩ = some (.int .u8 (l.getD i 0)))
def TabOk (w : World) : Prop := ∀ i, i < 16 → w.cell? ⟨0, i, none⟩ = some (.int .u32 (half i))

theorem xorNot (c : Nat) (h : c < 4294967296) : 4294967295 ^^^ c = 4294967295 - c := by
  apply Nat.eq_of_testBit_eq
  intro i
  rw [show (4294967295 : Nat) - c = 2 ^ 32 - (c + 1) from by omega, Nat.testBit_two_pow_sub_succ h, Nat.testBit_xor, show (4294967295 : Nat) = 2 ^ 32 - 1 from rfl, Nat.testBit_two_pow_sub_one]
  by_cases hi : i < 32
  · simp [hi]
  · have : c < 2 ^ i := Nat.lt_of_lt_of_le h (show 2 ^ 32 ≤ 2 ^ i from Nat.pow_le_pow_right (by omega) (by omega))
    simp [hi, Nat.testBit_lt_two_pow this]
theorem bitsNot (c : Nat) (h : c < 4294967296) : bits BinOp.xor IntKind.u32 IntKind.u32.max (c : Int) = ((4294967295 - c : Nat) : Int) := by
  rw [show IntKind.u32.max = ((4294967295 : Nat) : Int) from rfl, u32_xor_nat _ _ (by omega) h, xorNot c h]

set_option maxHeartbeats 400000 in
theorem more_walk (c : Nat) (hc : c < 4294967296) (b off cap : Nat) (l : List Nat) (w : World) (hl : l.length ≤ cap) (hm : cap ≤ maxLen) (h8 : ∀ x ∈ l, x < 256)
    (hcell : ∀ i, i < l.length → w.cell? ⟨b, off + i, none⟩ = some (.int .u8 (l.getD i 0))) (htab : TabOk w) :
    Calls Tryd.prog 13 #[.int .u32 c, .slice (some ⟨b, off, none⟩) l.length cap] w fun e w' => e = .returned (.int .u32 (moreOf c l)) ∧ w = w' := by
  unfold maxLen at hm
  have Hcell := Lib.hid hcell
  have h8' := Lib.hid h8
  have Htab := Lib.hid htab
  clear hcell h8 htab
  have e0 := Lib.hid (bitsNot c hc)
  go_enter Tryd.func13, Tryd.ntmps13
  go_wp2
  go_loop [0, 11] (fun d i => ∃ k : Nat, k ≤ l.length ∧ i = .int .i64 k ∧ d = .int .u32 (runBytes (4294967295 - c) (l.take k))) (fun _ i => l.length - (intOf i).toNat)
  case atStart => exact ⟨0, Nat.zero_le _, rfl, by rw [e0.out]; simp [runBytes]⟩
  case round =>
    obtain ⟨k, hk, rfl, rfl⟩ := hrel
    by_cases hlt : k < l.length
    · obtain ⟨x, ex⟩ : ∃ x, l.getD k 0 = x := ⟨_, rfl⟩
      have hx8 : x < 256 := by subst ex; rw [List.getD_eq_getElem?_getD, List.getElem?_eq_getElem hlt]; exact h8'.out _ (List.getElem_mem _)
      have hx := Hcell.out k hlt
      rw [ex] at hx
      have hstep : runBytes (4294967295 - c) (l.take (k + 1)) = byteStep (runBytes (4294967295 - c) (l.take k)) x := by
        rw [List.take_succ_eq_append_getElem hlt]
        simp only [runBytes, List.foldl_append, List.foldl_cons, List.foldl_nil]
        rw [← ex, List.getD_eq_getElem?_getD, List.getElem?_eq_getElem hlt]; rfl
      have hs : runBytes (4294967295 - c) (l.take k) < 4294967296 := runBytes_lt (by omega) (fun y hy => h8'.out y (List.mem_of_mem_take hy))
      have Hstep := Lib.hid hstep
      clear hstep ex
      generalize runBytes (4294967295 - c) (l.take k) = s at *
      obtain ⟨s1, es1, hs1⟩ : ∃ s1, s ^^^ x = s1 ∧ s1 < 4294967296 := ⟨_, rfl, xor_lt32 hs (by omega)⟩
      obtain ⟨s2, es2, hs2⟩ : ∃ s2, four s1 = s2 ∧ s2 < 4294967296 := ⟨_, rfl, four_lt hs1⟩
      obtain ⟨s3, es3, hs3⟩ : ∃ s3, four s2 = s3 ∧ s3 < 4294967296 := ⟨_, rfl, four_lt hs2⟩
      obtain ⟨j1, ej1, hj1⟩ : ∃ j, s1 &&& 15 = j ∧ j < 16 := ⟨_, rfl, Nat.lt_of_le_of_lt Nat.and_le_right (by omega)⟩
      obtain ⟨j2, ej2, hj2⟩ : ∃ j, s2 &&& 15 = j ∧ j < 16 := ⟨_, rfl, Nat.lt_of_le_of_lt Nat.and_le_right (by omega)⟩
      have t1 := Htab.out j1 hj1
      have t2 := Htab.out j2 hj2
      obtain ⟨h1, eh1, hh1⟩ : ∃ h, half j1 = h ∧ h < 4294967296 := ⟨_, rfl, half_lt _⟩
      obtain ⟨h2, eh2, hh2⟩ : ∃ h, half j2 = h ∧ h < 4294967296 := ⟨_, rfl, half_lt _⟩
      rw [eh1] at t1
      rw [eh2] at t2
      have E1 : bits BinOp.xor IntKind.u32 (s : Int) (x : Int) = (s1 : Int) := by rw [u32_xor_nat _ _ hs (by omega), es1]
      have E2 : bits BinOp.and IntKind.u32 (s1 : Int) 15 = (j1 : Int) := by rw [← ej1]; exact u32_and_nat _ 15 hs1 (by omega)
      have E3 : bits BinOp.and IntKind.u32 (s2 : Int) 15 = (j2 : Int) := by rw [← ej2]; exact u32_and_nat _ 15 hs2 (by omega)
      have E4 : bits BinOp.xor IntKind.u32 ((s1 : Int) / 16) (h1 : Int) = (s2 : Int) := by
        rw [show ((s1 : Int) / 16) = ((s1 / 16 : Nat) : Int) from by omega, u32_xor_nat _ _ (by omega) hh1, ← es2, ← eh1, ← ej1, four, Nat.shiftRight_eq_div_pow]
      have E5 : bits BinOp.xor IntKind.u32 ((s2 : Int) / 16) (h2 : Int) = (s3 : Int) := by
        rw [show ((s2 : Int) / 16) = ((s2 / 16 : Nat) : Int) from by omega, u32_xor_nat _ _ (by omega) hh2, ← es3, ← eh2, ← ej2, four, Nat.shiftRight_eq_div_pow]
      have HH := Lib.hid (And.intro es1 (And.intro es2 (And.intro es3 (And.intro ej1 (And.intro ej2 (And.intro eh1 eh2))))))
      clear es1 es2 es3 ej1 ej2 eh1 eh2
      go_wp2
      go_round
      case rel => exact ⟨k + 1, by omega, by go_num, by obtain ⟨a1, a2, a3, -, -, -, -⟩ := HH.out; rw [Hstep.out, byteStep, a1, a2, a3]⟩
      case measure => simp [intOf]; omega
    · obtain rfl : k = l.length := by omega
      have hs : runBytes (4294967295 - c) l < 4294967296 := runBytes_lt (by omega) h8'.out
      have e1 := bitsNot _ hs
      rw [List.take_length]
      have Hm : Hid (moreOf c l = 4294967295 - runBytes (4294967295 - c) l) := rfl
      generalize runBytes (4294967295 - c) l = s at *
      have E1 := Lib.hid e1
      clear e1
      go_wp2
      go_ret
      rw [Hm.out]
      exact ⟨congrArg (fun z => Ending.returned (.int .u32 z)) E1.out, rfl⟩

set_option maxHeartbeats 400000 in
theorem more_nil (c : Nat) (hc : c < 4294967296) (a : Option Addr) (cap : Nat) (w : World) :
    Calls Tryd.prog 13 #[.int .u32 c, .slice a 0 cap] w fun e w' => e = .returned (.int .u32 (moreOf c [])) ∧ w = w' := by
  have e0 := Lib.hid (bitsNot c hc)
  have e1 := Lib.hid (bitsNot (4294967295 - c) (by omega))
  go_enter Tryd.func13, Tryd.ntmps13
  go_wp2
  go_loop [0, 11] (fun d i => i = .int .i64 0 ∧ d = .int .u32 (4294967295 - c : Nat)) (fun _ i => 0)
  case atStart => exact ⟨rfl, by rw [e0.out]⟩
  case round =>
    obtain ⟨rfl, rfl⟩ := hrel
    go_wp2
    go_ret
    exact ⟨congrArg (fun z => Ending.returned (.int .u32 z)) e1.out, rfl⟩

theorem more_any (c : Nat) (hc : c < 4294967296) (v : Value) (l : List Nat) (w : World) (hb : IsBytes w v l) (htab : TabOk w) :
    Calls Tryd.prog 13 #[.int .u32 c, v] w fun e w' => e = .returned (.int .u32 (moreOf c l)) ∧ w = w' := by
  obtain ⟨h8, a, cap, rfl, hl, hm, hx⟩ := hb
  by_cases he : l = []
  · subst he; exact more_nil c hc a cap w
  · obtain ⟨b, off, rfl, hcell⟩ := hx he
    exact more_walk c hc b off cap l w hl hm h8 hcell htab

theorem of_any (v : Value) (l : List Nat) (w : World) (hb : IsBytes w v l) (htab : TabOk w) :
    Calls Tryd.prog 11 #[v] w fun e w' => e = .returned (.int .u32 (moreOf 0 l)) ∧ w = w' := by
  have hb' := Lib.hid hb
  have ht := Lib.hid htab
  clear hb htab
  go_enter Tryd.func11, Tryd.ntmps11
  go_wp2_with (go_at_call 13; refine (more_any 0 (by omega) _ _ _ hb'.out ht.out).mono ?_; rintro e w' ⟨rfl, rfl⟩)
  go_ret
  exact ⟨rfl, rfl⟩

set_option maxHeartbeats 400000 in
theorem run_walk (c : Nat) (hc : c < 4294967296) (b off cap : Nat) (l : List Nat) (w : World) (hl : l.length ≤ cap) (hm : cap ≤ maxLen) (h8 : ∀ x ∈ l, x < 256)
    (hcell : ∀ i, i < l.length → w.cell? ⟨b, off + i, none⟩ = some (.int .u8 (l.getD i 0))) :
    Calls Tryd.prog 21 #[.int .u32 c, .slice (some ⟨b, off, none⟩) l.length cap] w fun e w' => e = .returned (.int .u32 (refRun c l)) ∧ w = w' := by
  unfold maxLen at hm
  have Hcell := Lib.hid hcell
  have h8' := Lib.hid h8
  clear hcell h8
  go_enter Tryd.func21, Tryd.ntmps21
  go_wp2
  go_loop [0, 5] (fun d i => ∃ k : Nat, k ≤ l.length ∧ i = .int .i64 k ∧ d = .int .u32 (refRun c (l.take k))) (fun _ i => l.length - (intOf i).toNat)
  case atStart => exact ⟨0, Nat.zero_le _, rfl, by simp [refRun]⟩
  case round =>
    obtain ⟨k, hk, rfl, rfl⟩ := hrel
    by_cases hlt : k < l.length
    · obtain ⟨x, ex⟩ : ∃ x, l.getD k 0 = x := ⟨_, rfl⟩
      have hx8 : x < 256 := by subst ex; rw [List.getD_eq_getElem?_getD, List.getElem?_eq_getElem hlt]; exact h8'.out _ (List.getElem_mem _)
      have hx := Hcell.out k hlt
      rw [ex] at hx
      have hstep : refRun c (l.take (k + 1)) = bits8 8 (refRun c (l.take k) ^^^ x) := by
        rw [List.take_succ_eq_append_getElem hlt]
        simp only [refRun, List.foldl_append, List.foldl_cons, List.foldl_nil]
        rw [← ex, List.getD_eq_getElem?_getD, List.getElem?_eq_getElem hlt]; rfl
      have hs : refRun c (l.take k) < 4294967296 := refRun_lt hc (fun y hy => h8'.out y (List.mem_of_mem_take hy))
      have Hstep := Lib.hid hstep
      clear hstep ex
      generalize refRun c (l.take k) = s at *
      obtain ⟨s1, es1, hs1⟩ : ∃ s1, s ^^^ x = s1 ∧ s1 < 4294967296 := ⟨_, rfl, xor_lt32 hs (by omega)⟩
      have E1 : bits BinOp.xor IntKind.u32 (s : Int) (x : Int) = (s1 : Int) := by rw [u32_xor_nat _ _ hs (by omega), es1]
      rw [es1] at Hstep
      clear es1
      go_wp2
      go_loop [0, 6] (fun d i => ∃ j : Nat, j ≤ 8 ∧ i = .int .i64 j ∧ d = .int .u32 (bits8 j s1)) (fun _ i => 8 - (intOf i).toNat)
      case atStart => exact ⟨0, Nat.zero_le _, rfl, rfl⟩
      case round =>
        obtain ⟨j, hj, rfl, rfl⟩ := hrel
        by_cases hj8 : j < 8
        · have hr : bits8 j s1 < 4294967296 := bits8_lt j hs1
          have Hs : Hid (bits8 (j + 1) s1 = bitStep (bits8 j s1)) := rfl
          generalize bits8 j s1 = r at *
          go_wp2
          · go_round
            case rel => exact ⟨j + 1, by omega, by go_num, by rw [Hs.out, bitStep, if_pos (by have := ‹((r : Int) % 2 == 1) = true›; simp at this; omega), show ((r : Int) / 2) = ((r / 2 : Nat) : Int) from by omega]; exact congrArg _ (u32_xor_nat _ 2197175160 (by omega) (by omega))⟩
            case measure => simp [intOf]; omega
          · go_round
            case rel => exact ⟨j + 1, by omega, by go_num, by rw [Hs.out, bitStep, if_neg (by have := ‹((r : Int) % 2 == 1) = false›; simp at this; omega)]; go_num⟩
            case measure => simp [intOf]; omega
        · obtain rfl : j = 8 := by omega
          have Hs : Hid (bits8 8 s1 = refRun c (l.take (k + 1))) := Hstep.out.symm
          generalize bits8 8 s1 = r at *
          go_wp2
          go_round
          case rel => exact ⟨k + 1, by omega, by go_num, by rw [Hs.out]⟩
          case measure => simp [intOf]; omega
    · obtain rfl : k = l.length := by omega
      rw [List.take_length]
      have Hs : Hid (∀ s, s = refRun c l → Ending.returned (.int .u32 (s : Nat)) = .returned (.int .u32 (refRun c l))) := by rintro s rfl; rfl
      obtain ⟨s, es⟩ : ∃ s, s = refRun c l := ⟨_, rfl⟩
      rw [← es]
      have Hs' := Lib.hid (Hs.out s es)
      clear es Hs
      go_wp2
      go_ret
      exact ⟨Hs'.out, rfl⟩

theorem run_nil (c : Nat) (a : Option Addr) (cap : Nat) (w : World) :
    Calls Tryd.prog 21 #[.int .u32 c, .slice a 0 cap] w fun e w' => e = .returned (.int .u32 (refRun c [])) ∧ w = w' := by
  go_enter Tryd.func21, Tryd.ntmps21
  go_wp2
  go_loop [0, 5] (fun d i => i = .int .i64 0 ∧ d = .int .u32 c) (fun _ i => 0)
  case atStart => exact ⟨rfl, rfl⟩
  case round =>
    obtain ⟨rfl, rfl⟩ := hrel
    go_wp2
    go_ret
    exact ⟨rfl, rfl⟩

theorem run_any (c : Nat) (hc : c < 4294967296) (v : Value) (l : List Nat) (w : World) (hb : IsBytes w v l) :
    Calls Tryd.prog 21 #[.int .u32 c, v] w fun e w' => e = .returned (.int .u32 (refRun c l)) ∧ w = w' := by
  obtain ⟨h8, a, cap, rfl, hl, hm, hx⟩ := hb
  by_cases he : l = []
  · subst he; exact run_nil c a cap w
  · obtain ⟨b, off, rfl, hcell⟩ := hx he
    exact run_walk c hc b off cap l w hl hm h8 hcell

theorem refOf_any (v : Value) (l : List Nat) (w : World) (hb : IsBytes w v l) :
    Calls Tryd.prog 12 #[v] w fun e w' => e = .returned (.int .u32 (4294967295 - refRun 4294967295 l : Nat)) ∧ w = w' := by
  have hb' := Lib.hid hb
  have hr : refRun 4294967295 l < 4294967296 := refRun_lt (by omega) hb.1
  have Hr : Hid (∀ r, r = refRun 4294967295 l → bits BinOp.xor IntKind.u32 (r : Int) 4294967295 = ((4294967295 - r : Nat) : Int)) := by
    intro r e
    rw [← xorNot r (by omega), Nat.xor_comm]
    exact u32_xor_nat r 4294967295 (by omega) (by omega)
  clear hb
  obtain ⟨r, er⟩ : ∃ r, r = refRun 4294967295 l := ⟨_, rfl⟩
  have E := Lib.hid (Hr.out r er)
  rw [← er] at hr
  have hcall := fun W (h : IsBytes W v l) => run_any 4294967295 (by omega) v l W h
  rw [← er] at hcall ⊢
  clear er Hr
  have hcall' := Lib.hid hcall
  clear hcall
  go_enter Tryd.func12, Tryd.ntmps12
  go_wp2_with (go_at_call 21; refine (hcall'.out _ hb'.out).mono ?_; rintro e w' ⟨rfl, rfl⟩)
  go_ret
  exact ⟨congrArg (fun z => Ending.returned (.int .u32 z)) E.out, rfl⟩

theorem k15 : bits BinOp.and IntKind.u64 15 31 = 15 := by decide +kernel
theorem k17 : bits BinOp.and IntKind.u64 (IntKind.u64.wrap (-15)) 31 = 17 := by decide +kernel
theorem rot15_any (c : Nat) (hc : c < 4294967296) (w : World) :
    Calls Tryd.prog 22 #[.int .u32 c, .int .i64 15] w fun e w' => e = .returned (.int .u32 (rot15 c)) ∧ w = w' := by
  have k := k15
  have E : bits BinOp.or IntKind.u32 ((c : Int) * 32768 % 4294967296) ((c : Int) / 131072) = (rot15 c : Nat) := by
    rw [← or15 hc, show ((c : Int) * 32768 % 4294967296) = ((c * 32768 % 4294967296 : Nat) : Int) from by omega, show ((c : Int) / 131072) = ((c / 131072 : Nat) : Int) from by omega]
    exact u32_or_nat _ _ (by omega) (by omega)
  have E' := Lib.hid E
  clear E
  go_enter Tryd.func22, Tryd.ntmps22
  go_wp2
  go_ret
  exact ⟨congrArg (fun z => Ending.returned (.int .u32 z)) E'.out, rfl⟩
theorem rot17_any (c : Nat) (hc : c < 4294967296) (w : World) :
    Calls Tryd.prog 22 #[.int .u32 c, .int .i64 (-15)] w fun e w' => e = .returned (.int .u32 (rot17 c)) ∧ w = w' := by
  have k := k17
  have E : bits BinOp.or IntKind.u32 ((c : Int) * 131072 % 4294967296) ((c : Int) / 32768) = (rot17 c : Nat) := by
    rw [← or17 hc, show ((c : Int) * 131072 % 4294967296) = ((c * 131072 % 4294967296 : Nat) : Int) from by omega, show ((c : Int) / 32768) = ((c / 32768 : Nat) : Int) from by omega]
    exact u32_or_nat _ _ (by omega) (by omega)
  have E' := Lib.hid E
  clear E
  go_enter Tryd.func22, Tryd.ntmps22
  go_wp2
  go_ret
  exact ⟨congrArg (fun z => Ending.returned (.int .u32 z)) E'.out, rfl⟩
theorem ret_u32 {a b : Int} (h : a = b) : Ending.returned (.int .u32 a) = .returned (.int .u32 b) := by rw [h]
theorem mask_any (c : Nat) (hc : c < 4294967296) (w : World) :
    Calls Tryd.prog 15 #[.int .u32 c] w fun e w' => e = .returned (.int .u32 (maskOf c)) ∧ w = w' := by
  have hr := rot17_lt hc
  have E : Hid ((((rot17 c : Nat) : Int) + 2726488792) % 4294967296 = ((maskOf c : Nat) : Int)) := by unfold Hid maskOf; omega
  have hcall := Lib.hid (fun W => rot17_any c hc W)
  generalize rot17 c = r at *
  generalize maskOf c = m at *
  go_enter Tryd.func15, Tryd.ntmps15
  go_wp2_with (go_at_call 22; refine (hcall.out _).mono ?_; rintro e w' ⟨rfl, rfl⟩)
  go_ret
  exact ⟨ret_u32 E.out, rfl⟩
theorem unmask_any (c : Nat) (w : World) :
    Calls Tryd.prog 17 #[.int .u32 c] w fun e w' => e = .returned (.int .u32 (unmaskOf c)) ∧ w = w' := by
  have E : ((c : Int) - 2726488792) % 4294967296 = (((c + 1568478504) % 4294967296 : Nat) : Int) := by omega
  have hcall := Lib.hid (fun W => rot15_any ((c + 1568478504) % 4294967296) (by omega) W)
  have Hm : Hid (unmaskOf c = rot15 ((c + 1568478504) % 4294967296)) := rfl
  generalize unmaskOf c = m at *
  generalize (c + 1568478504) % 4294967296 = d at *
  go_enter Tryd.func17, Tryd.ntmps17
  go_wp2_with (go_at_call 22; refine (hcall.out _).mono ?_; rintro e w' ⟨rfl, rfl⟩)
  go_ret
  exact ⟨ret_u32 (by rw [Hm.out]), rfl⟩
theorem refmask_any (c : Nat) (hc : c < 4294967296) (w : World) :
    Calls Tryd.prog 16 #[.int .u32 c] w fun e w' => e = .returned (.int .u32 (maskOf c)) ∧ w = w' := by
  have E : Hid (((c : Int) / 32768 + (c : Int) % 32768 * 131072 + 2726488792) % 4294967296 = ((maskOf c : Nat) : Int)) := by unfold Hid maskOf rot17; omega
  generalize maskOf c = m at *
  go_enter Tryd.func16, Tryd.ntmps16
  go_wp2
  go_ret
  exact ⟨ret_u32 E.out, rfl⟩
end Go.Proofs.YtnnkcohkgckclaaDoor.Tithe
