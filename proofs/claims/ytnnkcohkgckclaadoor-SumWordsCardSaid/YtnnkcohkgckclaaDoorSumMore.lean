/- The walks of awake, Word, Parse, Same, Copy. -/
import Derived.Test.YtnnkcohkgckclaaDoorSumWalk
import Derived.Lib.SlBytesConst
namespace Go.Proofs.YtnnkcohkgckclaaDoor.Tithe
open Go.RowKit
set_option linter.unusedVariables false
theorem TabOk.below {w w' : World} (h : TabOk w) (hb : Below w.heap.size w w') : TabOk w' := fun i hi => by
  have := h i hi
  rw [hb.cell (block_lt_of_cell this)]; exact this
theorem IsBytes.below {w w' : World} {v : Value} {l : List Nat} (h : IsBytes w v l) (hb : Below w.heap.size w w') : IsBytes w' v l := by
  obtain ⟨h8, a, c, e, h1, h2, h3⟩ := h
  refine ⟨h8, a, c, e, h1, h2, fun hne => ?_⟩
  obtain ⟨b, off, ha, hc⟩ := h3 hne
  refine ⟨b, off, ha, fun i hi => ?_⟩
  have := hc i hi
  rw [hb.cell (block_lt_of_cell this)]; exact this
/-- a new block of bytes, whole -/
theorem isBytes_new (w : World) (l : List Nat) (cells : Array Value) (t : TypeId) (fr : Nat × Nat) (hl : ∀ x ∈ l, x < 256) (hlen : l.length ≤ maxLen) (hc : cells = (l.map fun x => Value.int .u8 (x : Nat)).toArray) :
    IsBytes (w.alloc (.cells cells t fr)) (.slice (some ⟨w.heap.size, 0, none⟩) l.length l.length) l := by
  refine ⟨hl, _, _, rfl, Nat.le_refl _, hlen, fun _ => ⟨_, _, rfl, fun i hi => ?_⟩⟩
  subst hc
  rw [Nat.zero_add, World.cell?_alloc_mark]
  simp [hi]
def nine : List Nat := [49, 50, 51, 52, 53, 54, 55, 56, 57]
theorem nine_sum : moreOf 0 nine = 3808858755 := by decide +kernel
theorem nine_mask : maskOf 3808858755 = 3347755237 := by decide +kernel
theorem awake_any (w : World) (htab : TabOk w) :
    Calls Tryd.prog 10 #[] w fun e w' => e = .returned (.bool true) ∧ Below w.heap.size w w' := by
  have Htab := Lib.hid htab
  clear htab
  have kc := fun (w : World) (C : Array Value) (n c : Nat) => Lib.run_convert_bytes_const (P := Tryd.prog) w 22 5 C n c Tryd.underlying22 Tryd.underlying5
  have h9 : Hid (∀ (w : World) cells, cells = (nine.map fun x => Value.int .u8 (x : Nat)).toArray → ∀ t fr, TabOk w → Calls Tryd.prog 11 #[.slice (some ⟨w.heap.size, 0, none⟩) 9 9] (w.alloc (.cells cells t fr)) fun e w' => e = .returned (.int .u32 3808858755) ∧ w.alloc (.cells cells t fr) = w') := by
    intro w cells hc t fr ht
    refine (of_any _ nine _ (isBytes_new w nine cells t fr (by decide) (by decide) hc) (ht.below ((Below.refl _ _).alloc (Nat.le_refl _) _))).mono ?_
    rintro e w' ⟨rfl, rfl⟩
    exact ⟨by rw [nine_sum]; rfl, rfl⟩
  have hm : Hid (∀ w, Calls Tryd.prog 15 #[.int .u32 3808858755] w fun e w' => e = .returned (.int .u32 3347755237) ∧ w = w') := by
    intro w
    refine (mask_any 3808858755 (by omega) w).mono ?_
    rintro e w' ⟨rfl, rfl⟩
    exact ⟨by rw [nine_mask]; rfl, rfl⟩
  go_enter Tryd.func10, Tryd.ntmps10
  go_wp2_with (first | (go_at_call 11; refine (h9.out _ _ rfl _ _ Htab.out).mono ?_; rintro e w' ⟨rfl, rfl⟩) | (go_at_call 15; refine (hm.out _).mono ?_; rintro e w' ⟨rfl, rfl⟩))
  go_ret
  exact ⟨rfl, (Below.refl _ _).alloc (Nat.le_refl _) _⟩
/-- the four bytes of a number, the highest first -/
def wordL (c : Nat) : List Nat := [c / 16777216 % 256, c / 65536 % 256, c / 256 % 256, c % 256]
theorem wordL_lt (c : Nat) : ∀ x ∈ wordL c, x < 256 := by
  intro x hx
  simp [wordL] at hx
  omega
theorem word_any (c : Nat) (w : World) :
    Calls Tryd.prog 18 #[.int .u32 c] w fun e w' => e = .returned (.slice (some ⟨w.heap.size, 0, none⟩) 4 4) ∧ w.alloc (.cells ((wordL c).map fun x => Value.int .u8 (x : Nat)).toArray 5) = w' := by
  have hw : Hid (((wordL c).map fun x => Value.int .u8 (x : Nat)).toArray = #[Value.int IntKind.u8 ((c : Int) / 16777216 % 256), Value.int IntKind.u8 ((c : Int) / 65536 % 256), Value.int IntKind.u8 ((c : Int) / 256 % 256), Value.int IntKind.u8 ((c : Int) % 256)]) := by
    show _ = _
    simp [wordL]
  rw [hw.out]
  clear hw
  go_enter Tryd.func18, Tryd.ntmps18
  go_wp2_with fail
  go_ret
  exact ⟨rfl, rfl⟩
def parseL (l : List Nat) : Nat := l.foldl (fun c x => c * 256 % 4294967296 ||| x) 0
theorem parseL_lt {l : List Nat} (h : ∀ x ∈ l, x < 256) : parseL l < 4294967296 := by
  unfold parseL
  suffices ∀ c, c < 4294967296 → l.foldl (fun c x => c * 256 % 4294967296 ||| x) c < 4294967296 from this 0 (by omega)
  induction l with
  | nil => exact fun c hc => hc
  | cons x l ih =>
    intro c hc
    refine ih (fun y hy => h y (by simp [hy])) _ ?_
    have := h x (by simp)
    have h2 : (c * 256 % 4294967296 ||| x) < 2 ^ 32 := Nat.or_lt_two_pow (by omega) (by omega)
    exact h2
theorem parse_short (a : Option Addr) (n cap : Nat) (hn : n < 4) (w : World) :
    Calls Tryd.prog 19 #[.slice a n cap] w fun e w' => e = .returned (.tuple #[.int .u32 0, .int .i64 21]) ∧ w = w' := by
  have h1 : (n : Int) < 4 := by omega
  go_enter Tryd.func19, Tryd.ntmps19
  go_wp2
  go_ret2
  exact ⟨rfl, rfl⟩
theorem parse_long (a : Option Addr) (n cap : Nat) (hn : 4 < n) (w : World) :
    Calls Tryd.prog 19 #[.slice a n cap] w fun e w' => e = .returned (.tuple #[.int .u32 0, .int .i64 20]) ∧ w = w' := by
  have h1 : ¬ (n : Int) < 4 := by omega
  have h2 : (4 : Int) < n := by omega
  go_enter Tryd.func19, Tryd.ntmps19
  go_wp2
  go_ret2
  exact ⟨rfl, rfl⟩
theorem parse_four (b off cap : Nat) (l : List Nat) (w : World) (h4 : l.length = 4) (h8 : ∀ x ∈ l, x < 256)
    (hcell : ∀ i, i < l.length → w.cell? ⟨b, off + i, none⟩ = some (.int .u8 (l.getD i 0))) :
    Calls Tryd.prog 19 #[.slice (some ⟨b, off, none⟩) 4 cap] w fun e w' => e = .returned (.tuple #[.int .u32 (parseL l), .int .i64 0]) ∧ w = w' := by
  have Hcell := Lib.hid hcell
  have h8' := Lib.hid h8
  have H4 := Lib.hid h4
  clear hcell h8 h4
  go_enter Tryd.func19, Tryd.ntmps19
  go_wp2
  go_loop [4, 17] (fun d i => ∃ k : Nat, k ≤ 4 ∧ i = .int .i64 k ∧ d = .int .u32 (parseL (l.take k))) (fun _ i => 4 - (intOf i).toNat)
  case atStart => exact ⟨0, Nat.zero_le _, rfl, by simp [parseL]⟩
  case round =>
    obtain ⟨k, hk, rfl, rfl⟩ := hrel
    by_cases hlt : k < 4
    · obtain ⟨x, ex⟩ : ∃ x, l.getD k 0 = x := ⟨_, rfl⟩
      have hlt' : k < l.length := by rw [H4.out]; exact hlt
      have hx8 : x < 256 := by subst ex; rw [List.getD_eq_getElem?_getD, List.getElem?_eq_getElem hlt']; exact h8'.out _ (List.getElem_mem _)
      have hx := Hcell.out k hlt'
      rw [ex] at hx
      have hs : parseL (l.take k) < 4294967296 := parseL_lt (fun y hy => h8'.out y (List.mem_of_mem_take hy))
      have Hstep : Hid (∀ s, s = parseL (l.take k) → parseL (l.take (k + 1)) = (s * 256 % 4294967296 ||| x)) := by
        rintro s rfl
        rw [List.take_succ_eq_append_getElem hlt']
        simp only [parseL, List.foldl_append, List.foldl_cons, List.foldl_nil]
        rw [← ex, List.getD_eq_getElem?_getD, List.getElem?_eq_getElem hlt']; rfl
      obtain ⟨s, es⟩ : ∃ s, s = parseL (l.take k) := ⟨_, rfl⟩
      have Hs := Lib.hid (Hstep.out s es)
      rw [← es] at hs ⊢
      clear ex es Hstep hlt'
      have E1 : bits BinOp.or IntKind.u32 ((s : Int) * 256 % 4294967296) (x : Int) = ((s * 256 % 4294967296 ||| x : Nat) : Int) := by
        rw [show ((s : Int) * 256 % 4294967296) = ((s * 256 % 4294967296 : Nat) : Int) from by omega]
        exact u32_or_nat _ _ (by omega) (by omega)
      have HE := Lib.hid E1
      clear E1
      go_wp2
      go_round
      case rel => exact ⟨k + 1, by omega, by go_num, by rw [Hs.out, HE.out]⟩
      case measure => simp [intOf]; omega
    · obtain rfl : k = 4 := by omega
      have et : l.take 4 = l := by rw [← H4.out]; exact List.take_length
      rw [et]
      have Hs : Hid (∀ s, s = parseL l → Ending.returned (.tuple #[.int .u32 (s : Nat), .int .i64 0]) = .returned (.tuple #[.int .u32 (parseL l), .int .i64 0])) := by rintro s rfl; rfl
      obtain ⟨s, es⟩ : ∃ s, s = parseL l := ⟨_, rfl⟩
      rw [← es]
      have Hs' := Lib.hid (Hs.out s es)
      clear es Hs et
      go_wp2
      go_ret2
      exact ⟨Hs'.out, rfl⟩
end Go.Proofs.YtnnkcohkgckclaaDoor.Tithe
