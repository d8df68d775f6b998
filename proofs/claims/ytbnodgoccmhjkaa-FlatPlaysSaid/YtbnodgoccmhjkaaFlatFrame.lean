/- The document's frame: walked, as to its length. -/
import Derived.Test.YtbnodgoccmhjkaaFlatRB
import Derived.Lib.ItoaNum
namespace Go.Proofs.Ytbnodgoccmhjkaa.Tithe
open Go.RowKit Go.Sort Go.Shelf
set_option linter.unusedVariables false
set_option linter.unusedSimpArgs false
set_option maxRecDepth 100000
attribute [local go_sem] Oper.semAt_some
theorem cells_flat (l : List Nat) : cellsOfL l = flat byteC l := by
  unfold cellsOfL flat
  induction l with
  | nil => rfl
  | cons x l ih => rw [List.map_cons, ih, List.flatMap_cons]; rfl
theorem encF_bO : ∀ (f n : Nat), n < 2 ^ (7 * f) → ∀ x ∈ encF f n, x < 256
  | 0, n, h, x, hx => by
    have : n = 0 := by simpa using h
    subst this
    have : x = 0 := by simpa [encF] using hx
    omega
  | f + 1, n, h, x, hx => by
    unfold encF at hx
    split at hx
    · rcases List.mem_cons.1 hx with rfl | hx
      · omega
      · refine encF_bO f (n / 128) ?_ x hx
        have e : 2 ^ (7 * (f + 1)) = 2 ^ (7 * f) * 128 := by rw [Nat.mul_add, Nat.mul_one, Nat.pow_add]
        rw [e] at h
        exact Nat.div_lt_of_lt_mul (by rw [Nat.mul_comm]; exact h)
    · have : x = n := by simpa using hx
      omega
theorem encN_lt {n : Nat} (h : n < 9223372036854775808) : ∀ x ∈ encN n, x < 256 := encF_bO 9 n h
set_option maxHeartbeats 3200000 in
theorem frame_any (vx : Value) (m : List Nat) (w : World) (hx : IsBs w vx m) (hm : m.length ≤ 60000) (h8 : ∀ x ∈ m, x < 256) :
    Calls Try.prog 45 #[vx] w fun e w' => ∃ v' bsF, e = .returned v' ∧ OwnBs w' w.heap.size v' bsF ∧ bsF.length = 4 + ((encN m.length).length + m.length) ∧ Below w.heap.size w w' := by
  have Htx := Lib.hid (rtext_any vx m w hx (by omega))
  obtain ⟨a, c, rfl, -, -, -⟩ := id hx
  have Hm := Lib.hid hm
  have hb8 : ∀ x ∈ encN m.length ++ m, x < 256 := fun x hx => by
    rcases List.mem_append.1 hx with h | h
    · exact encN_lt (by omega) x h
    · exact h8 x h
  have Hb8 := Lib.hid hb8
  obtain ⟨BD, hBD⟩ : ∃ B, B = encN m.length ++ m := ⟨_, rfl⟩
  rw [← hBD] at Htx Hb8
  have hBl : BD.length = (encN m.length).length + m.length := by rw [hBD, List.length_append]
  have hBl2 : BD.length ≤ 60010 := by have := encN_le m.length; omega
  have HBl := Lib.hid hBl
  clear hx hm h8 hb8 hBD hBl
  generalize m.length = n at *
  go_enter Try.func45, Try.ntmps45
  go_wp2_with fail
  refine Htx.out.mono ?_
  rintro e w2 ⟨v2, rfl, ho2, hb2⟩
  have hby : IsBytes w2 v2 BD := isBytes_own (by rw [cells_flat]; exact ho2) Hb8.out
  have Hof := Lib.hid (refOf_any v2 BD w2 hby)
  obtain ⟨ck, hck⟩ : ∃ q, q = 4294967295 - refRun 4294967295 BD := ⟨_, rfl⟩
  rw [← hck] at Hof
  have Hmk := Lib.hid (refmask_any ck (by omega) w2)
  have hmlt := maskOf_lt ck
  obtain ⟨mk, hmk⟩ : ∃ q, q = maskOf ck := ⟨_, rfl⟩
  rw [← hmk] at Hmk hmlt
  have Ho2 := Lib.hid ho2
  have Hb2 := Lib.hid hb2
  obtain ⟨n2, hn2⟩ : ∃ q, q = BD.length := ⟨_, rfl⟩
  rw [OwnBs, ← hn2] at ho2
  obtain ⟨a2, c2, rfl⟩ := own_slice ho2
  clear ho2 hb2 hby hck hmk hn2 Htx
  go_wp2_with fail
  refine Hof.out.mono ?_
  rintro e w3 ⟨rfl, rfl⟩
  go_wp2_with fail
  refine Hmk.out.mono ?_
  rintro e w4 ⟨rfl, rfl⟩
  obtain ⟨e1, he1⟩ : ∃ q : Nat, q = mk / 16777216 := ⟨_, rfl⟩
  obtain ⟨e2, he2⟩ : ∃ q : Nat, q = mk / 65536 % 256 := ⟨_, rfl⟩
  obtain ⟨e3, he3⟩ : ∃ q : Nat, q = mk / 256 % 256 := ⟨_, rfl⟩
  obtain ⟨e4, he4⟩ : ∃ q : Nat, q = mk % 256 := ⟨_, rfl⟩
  have g1 : (mk : Int) / 16777216 = (e1 : Int) := by omega
  have g2 : (mk : Int) / 65536 % 256 = (e2 : Int) := by omega
  have g3 : (mk : Int) / 256 % 256 = (e3 : Int) := by omega
  have g4 : (mk : Int) % 256 = (e4 : Int) := by omega
  have g5 : (e1 : Int) % 256 = (e1 : Int) := by omega
  clear he1 he2 he3 he4 Hof Hmk
  have hal : Below w2.heap.size w2 (w2.alloc (.cells #[.int .u8 e1, .int .u8 e2, .int .u8 e3, .int .u8 e4] 5)) := (Below.refl _ _).alloc (Nat.le_refl _) _
  have ho4 : OwnBs (w2.alloc (.cells #[.int .u8 e1, .int .u8 e2, .int .u8 e3, .int .u8 e4] 5)) w2.heap.size (.slice (some ⟨w2.heap.size, 0, none⟩) 4 4) [e1, e2, e3, e4] := own_of (blk_of_alloc w2 _) (Nat.le_refl _) (Nat.le_refl 4) (by unfold maxLen; omega) rfl rfl
  obtain ⟨v5, w5, hr5, ho5, hg5, -⟩ := app_bs _ w2.heap.size _ _ [e1, e2, e3, e4] BD ho4 (isSl_own byteC_len (own_below Ho2.out hal)) (by simp; omega) hal.size
  have Hb5 := Lib.hid (Hb2.out.trans ((hal.trans ((Below.refl _ _).grown hg5 hal.size (fun g e => (ho4.lt g e).1))).mono Hb2.out.size))
  have Ho5 : Hid (OwnBs w5 w.heap.size v5 ([e1, e2, e3, e4] ++ BD)) := Lib.hid (own_mono ho5 Hb2.out.size)
  obtain ⟨n5, hn5⟩ : ∃ q, q = ([e1, e2, e3, e4] ++ BD).length := ⟨_, rfl⟩
  rw [← hn5] at ho5
  obtain ⟨a5, c5, rfl⟩ := own_slice ho5
  clear hal ho4 ho5 hg5 hn5
  go_wp2_with (at_builtin; first | (refine wpList_val rfl _ _ (run_append_op (.tmp 26) (.tmp 27) 95 95 rfl rfl rfl hr5) ?_) | (refine wpList_val rfl _ _ (run_append_op (.tmp 26) (.tmp 27) 95 95 rfl (by simp) (by simp) hr5) ?_))
  go_ret
  exact ⟨_, _, rfl, Ho5.out, by rw [List.length_append, HBl.out]; rfl, Hb5.out⟩
/-- a number has as many bytes as the two say -/
theorem encN_wsz {n : Nat} (h : n < 65537) : (encN n).length = wsz n := by
  have hb : ∀ k, k ≤ 64 → n < 2 ^ k → Lib.bitLen n ≤ k := fun k hk hn => Lib.bitLen_le n k hk hn
  have hl : ∀ k, 2 ^ k ≤ n → k + 1 ≤ Lib.bitLen n := fun k hk => by
    rw [Lib.bitLen_shift k n hk (by omega)]
    have : 1 ≤ n / 2 ^ k := (Nat.one_le_div_iff (Nat.two_pow_pos k)).2 hk
    have := (Lib.bitLenAux_bounds 64 (n / 2 ^ k) (Nat.lt_of_le_of_lt (Nat.div_le_self _ _) (by omega)) (by omega)).1
    have e : Lib.bitLen (n / 2 ^ k) = Lib.bitLenAux 64 (n / 2 ^ k) := rfl
    omega
  unfold wsz
  by_cases h1 : n < 128
  · have := hb 7 (by omega) (by omega)
    have e : encN n = [n] := by
      show (if 127 < n then _ else [n]) = _
      rw [if_neg (by omega)]
    rw [e]
    show 1 = _
    omega
  · have g1 := hl 7 (by omega)
    by_cases h2 : n < 16384
    · have := hb 14 (by omega) (by omega)
      have e : encN n = [n % 128 + 128, n / 128] := by
        show (if 127 < n then (n % 128 + 128) :: (if 127 < n / 128 then _ else [n / 128]) else [n]) = _
        rw [if_pos (by omega), if_neg (by omega)]
      rw [e]
      show 2 = _
      omega
    · have g2 := hl 14 (by omega)
      have := hb 17 (by omega) (by omega)
      have e : encN n = [n % 128 + 128, n / 128 % 128 + 128, n / 128 / 128] := by
        show (if 127 < n then (n % 128 + 128) :: (if 127 < n / 128 then (n / 128 % 128 + 128) :: (if 127 < n / 128 / 128 then _ else [n / 128 / 128]) else [n / 128]) else [n]) = _
        rw [if_pos (by omega), if_pos (by omega), if_neg (by omega)]
      rw [e]
      show 3 = _
      omega
end Go.Proofs.Ytbnodgoccmhjkaa.Tithe
