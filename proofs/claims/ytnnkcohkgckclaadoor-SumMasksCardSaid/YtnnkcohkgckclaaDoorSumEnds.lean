/- The walks of the laws SumEnds, SumMasks, SumWords. -/
import Derived.Test.YtnnkcohkgckclaaDoorSumMore
import Derived.Test.YtnnkcohkgckclaaDoorSumLaw
import Derived.Lib.QuietBelow
import Derived.BigQuiet
import Derived.Outline
namespace Go.Proofs.YtnnkcohkgckclaaDoor.Tithe
open Go.RowKit Go.Sort
set_option linter.unusedVariables false
theorem four_maxLen : 4 ≤ maxLen := by decide
def endL (c : Nat) : List Nat := [c % 256, c / 256 % 256, c / 65536 % 256, c / 16777216 % 256]
theorem bits8_8x (d : Nat) : bits8 8 (256 * d) = d := bits8_shift 8 d
theorem endL_xor (c : Nat) (h : c < 4294967296) : (c % 256) ^^^ (256 * ((c / 256 % 256) ^^^ (256 * ((c / 65536 % 256) ^^^ (256 * (c / 16777216 % 256)))))) = c := by
  have e1 := split_xor 8 c
  have e2 := split_xor 8 (c / 256)
  have e3 := split_xor 8 (c / 65536)
  simp only [show (2 : Nat) ^ 8 = 256 from rfl] at e1 e2 e3
  have d1 : c / 256 / 256 = c / 65536 := by omega
  have d2 : c / 65536 / 256 = c / 16777216 := by omega
  have d3 : c / 16777216 % 256 = c / 16777216 := by omega
  rw [d1] at e2
  rw [d2] at e3
  rw [d3, Nat.xor_comm (c / 65536 % 256), e3, Nat.xor_comm (c / 256 % 256), e2, Nat.xor_comm, e1]
theorem xorNot' (c : Nat) (h : c < 4294967296) : (4294967295 - c) ^^^ c = 4294967295 := by
  apply Nat.eq_of_testBit_eq
  intro i
  rw [show (4294967295 : Nat) - c = 2 ^ 32 - (c + 1) from by omega, Nat.testBit_xor, Nat.testBit_two_pow_sub_succ h, show (4294967295 : Nat) = 2 ^ 32 - 1 from rfl, Nat.testBit_two_pow_sub_one]
  by_cases hi : i < 32
  · simp [hi]
  · have : c < 2 ^ i := Nat.lt_of_lt_of_le h (show 2 ^ 32 ≤ 2 ^ i from Nat.pow_le_pow_right (by omega) (by omega))
    simp [hi, Nat.testBit_lt_two_pow this]
theorem bits32M : bits8 8 (bits8 8 (bits8 8 (bits8 8 4294967295))) = 3080238136 := by decide +kernel
theorem ends (c : Nat) (h : c < 4294967296) : moreOf c (endL c) = 1214729159 := by
  unfold moreOf
  rw [runBytes_eq]
  simp only [refRun, endL, List.foldl_cons, List.foldl_nil]
  have e : ∀ s d D, bits8 8 (s ^^^ (d ^^^ 256 * D)) = bits8 8 (s ^^^ d) ^^^ D := fun s d D => by
    rw [← Nat.xor_assoc, bits8_xor, bits8_8x]
  have hx := endL_xor c h
  generalize c % 256 = d0 at *
  generalize c / 256 % 256 = d1 at *
  generalize c / 65536 % 256 = d2 at *
  generalize c / 16777216 % 256 = d3 at *
  have hM := bits32M
  rw [← xorNot' c h] at hM
  rw [show (4294967295 - c) ^^^ c = (4294967295 - c) ^^^ (d0 ^^^ 256 * (d1 ^^^ 256 * (d2 ^^^ 256 * d3))) from by rw [hx], e, e, e] at hM
  rw [hM]
set_option maxHeartbeats 400000 in
theorem sumEnds_walk (v : Value) (l : List Nat) (w : World) (hb : IsBytes w v l) (ht : TabOk w) :
    Calls Tryd.prog 7 #[v] w fun e w' => e = .returned (.bool true) ∧ Below w.heap.size w w' := by
  have hb' := Lib.hid hb
  have ht' := Lib.hid ht
  have hs : moreOf 0 l < 4294967296 := by unfold moreOf; omega
  obtain ⟨h8, a, c, rfl, h1, h2, h3⟩ := hb
  clear h3 ht
  unfold maxLen at h2
  by_cases hlong : (5000 : Int) < (l.length : Int)
  · go_enter Tryd.func7, Tryd.ntmps7
    go_wp2_with (go_at_call 10; refine (awake_any _ ht'.out).mono ?_; rintro e w' ⟨rfl, hw⟩)
    go_ret
    exact ⟨rfl, hw⟩
  · have c1 : Hid (∀ s, s = moreOf 0 l → Calls Tryd.prog 11 #[.slice a l.length c] w fun e w' => e = .returned (.int .u32 s) ∧ w = w') := by
      rintro s rfl; exact of_any _ l _ hb'.out ht'.out
    obtain ⟨s, es⟩ : ∃ s, s = moreOf 0 l := ⟨_, rfl⟩
    have c1' := Lib.hid (c1.out s es)
    rw [← es] at hs
    clear es c1
    have hend : Hid (#[Value.int .u8 ((s : Int) % 256), .int .u8 ((s : Int) / 256 % 256), .int .u8 ((s : Int) / 65536 % 256), .int .u8 ((s : Int) / 16777216)] = ((endL s).map fun x => Value.int .u8 (x : Nat)).toArray) := by
      show _ = _
      simp [endL]
      omega
    have hE8 : ∀ x ∈ endL s, x < 256 := by intro x hx; simp [endL] at hx; omega
    have hnew : Hid (∀ cells t, cells = ((endL s).map fun x => Value.int .u8 (x : Nat)).toArray → IsBytes (w.alloc (.cells cells t)) (.slice (some ⟨w.heap.size, 0, none⟩) 4 4) (endL s)) := fun cells t e => isBytes_new w (endL s) cells t (0, 0) hE8 four_maxLen e
    have c2 : Hid (∀ cells t, cells = ((endL s).map fun x => Value.int .u8 (x : Nat)).toArray → Calls Tryd.prog 13 #[.int .u32 s, .slice (some ⟨w.heap.size, 0, none⟩) 4 4] (w.alloc (.cells cells t)) fun e w' => e = .returned (.int .u32 1214729159) ∧ w.alloc (.cells cells t) = w') := by
      intro cells t e
      have := more_any s hs _ _ _ (hnew.out cells t e) (ht'.out.below ((Below.refl _ _).alloc (Nat.le_refl _) _))
      rw [ends s hs] at this
      exact this
    clear hE8
    go_enter Tryd.func7, Tryd.ntmps7
    go_wp2_with (first | (go_at_call 10; refine (awake_any _ (ht'.out.below ((Below.refl _ _).alloc (Nat.le_refl _) _))).mono ?_; rintro e w' ⟨rfl, hw⟩) | (go_at_call 11; refine c1'.out.mono ?_; rintro e w' ⟨rfl, rfl⟩) | (go_at_call 13; refine (c2.out _ _ hend.out).mono ?_; rintro e w' ⟨rfl, rfl⟩))
    go_ret
    exact ⟨rfl, ((Below.refl _ _).alloc (Nat.le_refl _) _).trans (hw.mono (by simp))⟩
set_option maxHeartbeats 400000 in
theorem sumMasks_walk (a0 a1 : Int) (w : World) (w0 : (Lit.int .u32 a0).wf = true) (w1 : (Lit.int .u32 a1).wf = true) (ht : TabOk w) :
    Calls Tryd.prog 8 #[.int .u32 a0, .int .u32 a1] w fun e w' => e = .returned (.bool true) ∧ Below w.heap.size w w' := by
  have b0 := bounds_u32 w0
  have b1 := bounds_u32 w1
  clear w0 w1
  have ht' := Lib.hid ht
  clear ht
  obtain ⟨c, rfl⟩ := Int.eq_ofNat_of_zero_le (show 0 ≤ a0 by omega)
  obtain ⟨d, rfl⟩ := Int.eq_ofNat_of_zero_le (show 0 ≤ a1 by omega)
  have hc : c < 4294967296 := by omega
  have hd : d < 4294967296 := by omega
  clear b0 b1
  obtain ⟨m, em⟩ : ∃ m, m = maskOf c := ⟨_, rfl⟩
  obtain ⟨u, eu⟩ : ∃ u, u = unmaskOf c := ⟨_, rfl⟩
  obtain ⟨n, en⟩ : ∃ n, n = maskOf d := ⟨_, rfl⟩
  have hm : m < 4294967296 := by rw [em]; exact maskOf_lt c
  have hu : u < 4294967296 := by rw [eu]; exact unmaskOf_lt c
  have c1 := Lib.hid (fun W => mask_any c hc W)
  have c2 := Lib.hid (fun W => refmask_any c hc W)
  have c3 := Lib.hid (fun W => unmask_any m W)
  have c4 := Lib.hid (fun W => unmask_any c W)
  have c5 := Lib.hid (fun W => mask_any u hu W)
  have c6 := Lib.hid (fun W => mask_any d hd W)
  rw [← em] at c1 c2
  rw [em, unmask_mask hc, ← em] at c3
  rw [← eu] at c4
  rw [eu, mask_unmask hc, ← eu] at c5
  rw [← en] at c6
  have hinj : m = n ↔ c = d := by rw [em, en]; exact mask_inj hc hd
  clear em eu en hm hu hc
  by_cases hcd : c = d
  · have hmn : m = n := hinj.2 hcd
    clear hinj
    subst hcd hmn
    go_enter Tryd.func8, Tryd.ntmps8
    go_wp2_with (first | (go_at_call 10; refine (awake_any _ ht'.out).mono ?_; rintro e w' ⟨rfl, hw⟩) | ((with_reducible refine (c1.out _).mono ?_); rintro e w' ⟨rfl, rfl⟩) | ((with_reducible refine (c2.out _).mono ?_); rintro e w' ⟨rfl, rfl⟩) | ((with_reducible refine (c3.out _).mono ?_); rintro e w' ⟨rfl, rfl⟩) | ((with_reducible refine (c4.out _).mono ?_); rintro e w' ⟨rfl, rfl⟩) | ((with_reducible refine (c5.out _).mono ?_); rintro e w' ⟨rfl, rfl⟩))
    go_ret
    exact ⟨rfl, hw⟩
  · have hmn : ¬ m = n := fun h => hcd (hinj.1 h)
    clear hinj
    have q1 : ((m : Int) == (n : Int)) = false := by simp; omega
    have q2 : ((c : Int) == (d : Int)) = false := by simp; omega
    clear hmn hcd
    go_enter Tryd.func8, Tryd.ntmps8
    go_wp2_with (first | (go_at_call 10; refine (awake_any _ ht'.out).mono ?_; rintro e w' ⟨rfl, hw⟩) | ((with_reducible refine (c1.out _).mono ?_); rintro e w' ⟨rfl, rfl⟩) | ((with_reducible refine (c2.out _).mono ?_); rintro e w' ⟨rfl, rfl⟩) | ((with_reducible refine (c3.out _).mono ?_); rintro e w' ⟨rfl, rfl⟩) | ((with_reducible refine (c4.out _).mono ?_); rintro e w' ⟨rfl, rfl⟩) | ((with_reducible refine (c5.out _).mono ?_); rintro e w' ⟨rfl, rfl⟩) | ((with_reducible refine (c6.out _).mono ?_); rintro e w' ⟨rfl, rfl⟩))
    go_ret
    exact ⟨rfl, hw⟩
/-- bytes as a string -/
theorem conv_bytes {w : World} {v : Value} {l : List Nat} (h : IsBytes w v l) : (convert 22 9 v).run Tryd.prog w = .ok (.string (strOfNums (l.map Int.ofNat))) w := by
  obtain ⟨h8, a, c, rfl, h1, h2, h3⟩ := h
  by_cases he : l = []
  · subst he
    cases a with
    | none => exact run_convert_bytes_nil w _ _ Tryd.underlying22 Tryd.underlying5 0 c _ Tryd.underlying9
    | some x =>
      have hl : (loadCells x 0).run Tryd.prog w = .ok (([] : List Int).map (Value.int .u8)).toArray w := run_loadCells_list (P := Tryd.prog) w x [] (fun j v hj => by simp at hj)
      show (convert 22 9 (.slice (some x) 0 c)).run Tryd.prog w = _
      rw [run_convert_bytes_string w _ _ _ _ 0 c Tryd.underlying22 Tryd.underlying5 Tryd.underlying9, run_bytesToString w _ 0 c [] hl]
      rfl
  · obtain ⟨b, off, rfl, hc⟩ := h3 he
    refine run_convert_bytes_arg w _ _ Tryd.underlying22 Tryd.underlying5 b off l.length c _ (by simp) (fun i hi => ?_) _ Tryd.underlying9
    rw [hc i hi]
    simp [List.getD_eq_getElem?_getD, hi]
theorem same_true (v v' : Value) (l : List Nat) (w : World) (h : IsBytes w v l) (h' : IsBytes w v' l) :
    Calls Tryd.prog 20 #[v, v'] w fun e w' => e = .returned (.bool true) ∧ w = w' := by
  have k1 := conv_bytes h
  have k2 := conv_bytes h'
  clear h h'
  generalize strOfNums (l.map Int.ofNat) = s at *
  go_enter Tryd.func20, Tryd.ntmps20
  go_wp2
  go_ret
  exact ⟨rfl, rfl⟩
theorem parse_word (c : Nat) (h : c < 4294967296) : parseL (wordL c) = c := by
  simp only [parseL, wordL, List.foldl_cons, List.foldl_nil]
  have e : ∀ a x, x < 256 → (a * 256 % 4294967296 ||| x) = a * 256 % 4294967296 + x := fun a x hx => by
    rw [show a * 256 % 4294967296 = 2 ^ 8 * (a % 16777216) from by omega]
    exact (Nat.two_pow_add_eq_or_of_lt (i := 8) hx _).symm
  rw [e _ _ (by omega), e _ _ (by omega), e _ _ (by omega), e _ _ (by omega)]
  omega
theorem word_parse (l : List Nat) (h4 : l.length = 4) (h : ∀ x ∈ l, x < 256) : wordL (parseL l) = l := by
  match l, h4 with
  | [a, b, c, d], _ =>
    have ha := h a (by simp)
    have hb := h b (by simp)
    have hc := h c (by simp)
    have hd := h d (by simp)
    simp only [parseL, List.foldl_cons, List.foldl_nil]
    have e : ∀ a x, x < 256 → (a * 256 % 4294967296 ||| x) = a * 256 % 4294967296 + x := fun a x hx => by
      rw [show a * 256 % 4294967296 = 2 ^ 8 * (a % 16777216) from by omega]
      exact (Nat.two_pow_add_eq_or_of_lt (i := 8) hx _).symm
    rw [e _ _ ha, e _ _ hb, e _ _ hc, e _ _ hd]
    simp only [wordL, List.cons.injEq, and_true]
    omega
def backK (c k : Nat) : Nat := c / 256 ^ (4 - k)
theorem backK_step (c k : Nat) (hc : c < 4294967296) (hk : k < 4) : backK c (k + 1) = backK c k * 256 + (wordL c).getD k 0 := by
  unfold backK
  match k, hk with
  | 0, _ => simp [wordL]; omega
  | 1, _ => simp [wordL]; omega
  | 2, _ => simp [wordL]; omega
  | 3, _ => simp [wordL]; omega
theorem backK_lt (c k : Nat) (hc : c < 4294967296) : backK c k < 4294967296 := Nat.lt_of_le_of_lt (Nat.div_le_self _ _) hc
set_option maxHeartbeats 800000 in
theorem sumWords_walk (a0 : Int) (v : Value) (l : List Nat) (w : World) (w0 : (Lit.int .u32 a0).wf = true) (hb : IsBytes w v l) (ht : TabOk w) :
    Calls Tryd.prog 9 #[.int .u32 a0, v] w fun e w' => e = .returned (.bool true) ∧ Below w.heap.size w w' := by
  have b0 := bounds_u32 w0
  clear w0
  obtain ⟨c, rfl⟩ := Int.eq_ofNat_of_zero_le (show 0 ≤ a0 by omega)
  have hc : c < 4294967296 := by omega
  clear b0
  have ht' := Lib.hid ht
  have hb' := Lib.hid hb
  clear ht
  obtain ⟨h8, a, cap, rfl, h1, h2, h3⟩ := hb
  clear h3
  unfold maxLen at h2
  obtain ⟨C, eC⟩ : ∃ C, C = ((wordL c).map fun x => Value.int .u8 (x : Nat)).toArray := ⟨_, rfl⟩
  have c1 := Lib.hid (word_any c w)
  rw [← eC] at c1
  have hW : IsBytes (w.alloc (.cells C 5)) (.slice (some ⟨w.heap.size, 0, none⟩) 4 4) (wordL c) := isBytes_new w (wordL c) C _ _ (wordL_lt c) four_maxLen eC
  have c2 : Hid (Calls Tryd.prog 19 #[.slice (some ⟨w.heap.size, 0, none⟩) 4 4] (w.alloc (.cells C 5)) fun e w' => e = .returned (.tuple #[.int .u32 c, .int .i64 0]) ∧ w.alloc (.cells C 5) = w') := by
    obtain ⟨g8, _, _, e, g1, g2, g3⟩ := hW
    obtain ⟨b, off, e2, g4⟩ := g3 (by simp [wordL])
    injection e with e3 e4 e5
    subst e2
    injection e3 with e3
    injection e3 with e6 e7
    subst e6 e7
    have := parse_four _ _ 4 (wordL c) _ rfl g8 g4
    rw [parse_word c hc] at this
    exact this
  have hcell : ∀ i, i < 4 → (w.alloc (.cells C 5)).cell? ⟨w.heap.size, i, none⟩ = some (.int .u8 ((wordL c).getD i 0)) := by
    intro i hi
    rw [World.cell?_alloc_mark, eC]
    have : i < (wordL c).length := hi
    simp [this, List.getD_eq_getElem?_getD]
  have Hcell := Lib.hid hcell
  have hb2 : Hid (IsBytes (w.alloc (.cells C 5)) (.slice a l.length cap) l) := hb'.out.below ((Below.refl _ _).alloc (Nat.le_refl _) _)
  have ht2 : Hid (TabOk (w.alloc (.cells C 5))) := ht'.out.below ((Below.refl _ _).alloc (Nat.le_refl _) _)
  have hw2 : Hid (Below w.heap.size w (w.alloc (.cells C 5))) := (Below.refl _ _).alloc (Nat.le_refl _) _
  have hsz : w.heap.size < (w.alloc (.cells C 5)).heap.size := by simp
  clear hW hcell eC
  generalize w.alloc (.cells C 5) = W at *
  go_enter Tryd.func9, Tryd.ntmps9
  go_wp2_with (first | ((with_reducible refine c1.out.mono ?_); rintro e w' ⟨rfl, rfl⟩) | ((with_reducible refine c2.out.mono ?_); rintro e w' ⟨rfl, rfl⟩))
  have hz : backK c 0 = 0 := by unfold backK; simp; omega
  have Hz := Lib.hid hz
  clear hz
  go_loop [8, 34] (fun d i => ∃ k : Nat, k ≤ 4 ∧ i = .int .i64 k ∧ d = .int .u32 (backK c k)) (fun _ i => 4 - (intOf i).toNat)
  case atStart => exact ⟨0, Nat.zero_le _, rfl, by rw [Hz.out]; rfl⟩
  case round =>
    obtain ⟨k, hk, rfl, rfl⟩ := hrel
    by_cases hlt : k < 4
    · have hx := Hcell.out k hlt
      have hs := Lib.hid (backK_step c k hc hlt)
      have hl := backK_lt c (k + 1) hc
      rw [hs.out] at hl
      have hx8 : (wordL c).getD k 0 < 256 := by
        rw [List.getD_eq_getElem?_getD, List.getElem?_eq_getElem (show k < (wordL c).length from hlt)]
        exact wordL_lt c _ (List.getElem_mem _)
      have hgen : ∀ b x, b * 256 + x < 4294967296 → x < 256 → b * 256 + x = backK c (k + 1) → Hid ((((b : Int) * 256 + (x : Int)) = ((backK c (k + 1) : Nat) : Int))) := by
        intro b x _ _ e; show _ = _; omega
      have hg := hgen _ _ hl hx8 hs.out.symm
      clear hgen hs
      generalize (wordL c).getD k 0 = x at *
      generalize backK c k = b at *
      go_wp2
      go_round
      case rel => exact ⟨k + 1, by omega, by go_num, by rw [← hg.out]⟩
      case measure => simp [intOf]; omega
    · obtain rfl : k = 4 := by omega
      have e4 : backK c 4 = c := by unfold backK; simp
      rw [e4]
      clear e4 hk hlt
      rcases Nat.lt_trichotomy l.length 4 with q | q | q
      · have c3 := Lib.hid (parse_short a l.length cap q W)
        have q1 : (l.length : Int) < 4 := by omega
        clear q
        go_wp2_with (first | (go_at_call 10; refine (awake_any _ ht2.out).mono ?_; rintro e w' ⟨rfl, hw⟩) | ((with_reducible refine c3.out.mono ?_); rintro e w' ⟨rfl, rfl⟩))
        go_ret
        exact ⟨rfl, hw2.out.trans (hw.mono (by omega))⟩
      · obtain ⟨m, em⟩ : ∃ m, m = parseL l := ⟨_, rfl⟩
        have c3 : Hid (Calls Tryd.prog 19 #[.slice a l.length cap] W fun e w' => e = .returned (.tuple #[.int .u32 m, .int .i64 0]) ∧ W = w') := by
          obtain ⟨g8, _, _, e, g1, g2, g3⟩ := hb2.out
          injection e with e1 e2 e3
          subst e1 e3
          obtain ⟨b, off, rfl, g4⟩ := g3 (by rintro rfl; simp at q)
          rw [em, q]
          exact parse_four b off cap l W q g8 g4
        have c4 := Lib.hid (word_any m W)
        rw [em, word_parse l q h8, ← em] at c4
        have c5 : Hid (Calls Tryd.prog 20 #[.slice (some ⟨W.heap.size, 0, none⟩) 4 4, .slice a l.length cap] (W.alloc (.cells (l.map fun x => Value.int .u8 (x : Nat)).toArray 5)) fun e w' => e = .returned (.bool true) ∧ (W.alloc (.cells (l.map fun x => Value.int .u8 (x : Nat)).toArray 5)) = w') := by
          have hn := isBytes_new W l _ 5 (0, 0) h8 (by rw [q]; exact four_maxLen) rfl
          rw [q] at hn
          exact same_true _ _ l _ hn (hb2.out.below ((Below.refl _ _).alloc (Nat.le_refl _) _))
        have ht3 : Hid (TabOk (W.alloc (.cells (l.map fun x => Value.int .u8 (x : Nat)).toArray 5))) := ht2.out.below ((Below.refl _ _).alloc (Nat.le_refl _) _)
        have hw3 : Hid (Below W.heap.size W (W.alloc (.cells (l.map fun x => Value.int .u8 (x : Nat)).toArray 5))) := (Below.refl _ _).alloc (Nat.le_refl _) _
        have hsz3 : W.heap.size < (W.alloc (.cells (l.map fun x => Value.int .u8 (x : Nat)).toArray 5)).heap.size := by simp
        clear em
        generalize W.alloc (.cells (l.map fun x => Value.int .u8 (x : Nat)).toArray 5) = W3 at *
        have q1 : ¬ (l.length : Int) < 4 := by omega
        have q2 : ¬ (4 : Int) < (l.length : Int) := by omega
        clear q
        go_wp2_with (first | (go_at_call 10; refine (awake_any _ ht3.out).mono ?_; rintro e w' ⟨rfl, hw⟩) | ((with_reducible refine c3.out.mono ?_); rintro e w' ⟨rfl, rfl⟩) | ((with_reducible refine c4.out.mono ?_); rintro e w' ⟨rfl, rfl⟩) | ((with_reducible refine c5.out.mono ?_); rintro e w' ⟨rfl, rfl⟩))
        go_ret
        exact ⟨rfl, (hw2.out.trans (hw3.out.mono (by omega))).trans (hw.mono (by omega))⟩
      · have c3 := Lib.hid (parse_long a l.length cap q W)
        have q1 : (4 : Int) < (l.length : Int) := by omega
        have q2 : ¬ (l.length : Int) < 4 := by omega
        clear q
        go_wp2_with (first | (go_at_call 10; refine (awake_any _ ht2.out).mono ?_; rintro e w' ⟨rfl, hw⟩) | ((with_reducible refine c3.out.mono ?_); rintro e w' ⟨rfl, rfl⟩))
        go_ret
        exact ⟨rfl, hw2.out.trans (hw.mono (by omega))⟩
end Go.Proofs.YtnnkcohkgckclaaDoor.Tithe
