/- What Parse read has just these bytes: plain. Parse of a right record's bytes is that record, and what Parse read has just these bytes: plain. -/
import Derived.Test.YthjjelomlgmllaaManPar
import Derived.Test.YthjjelomlgmllaaManSame
import Derived.Test.YthjjelomlgmllaaManRep
namespace Go.Proofs.Ythjjelomlgmllaa.Tithe
open Go.RowKit Go.Sort Go.Shelf
set_option linter.unusedVariables false
def Lt (l : List Nat) : Prop := ∀ x ∈ l, x < 256
theorem Lt.app {a b : List Nat} (h : Lt (a ++ b)) : Lt b := fun x hx => h x (List.mem_append.2 (.inr hx))
theorem Lt.app1 {a b : List Nat} (h : Lt (a ++ b)) : Lt a := fun x hx => h x (List.mem_append.2 (.inl hx))
theorem numS_inv {s : So} (hl : Lt s.cs) (h : (numS s).2.bad = false) : s.bad = false ∧ s.cs = encN (numS s).1 ++ (numS s).2.cs ∧ Lt (numS s).2.cs ∧ (numS s).2.sb = s.sb := by
  obtain ⟨cs, bad, sb⟩ := s
  obtain ⟨⟨n, r, b⟩, e⟩ : ∃ p, p = numB bad cs := ⟨_, rfl⟩
  unfold numS at h ⊢
  dsimp only at h hl ⊢
  rw [← e] at h ⊢
  dsimp only at h ⊢
  subst h
  obtain ⟨h1, h2, -⟩ := numB_inv hl e.symm
  exact ⟨h1, h2, fun x hx => hl x (by rw [h2]; exact List.mem_append.2 (.inr hx)), rfl⟩
theorem cntS_inv {s : So} (hl : Lt s.cs) (h : (cntS s).2.bad = false) (hs : (cntS s).2.sb = false) : s.bad = false ∧ s.sb = false ∧ s.cs = encN (cntS s).1 ++ (cntS s).2.cs ∧ Lt (cntS s).2.cs ∧ (cntS s).1 ≤ 64 := by
  by_cases q : 64 < (numS s).1 ∨ (numS s).2.bad = true
  · unfold cntS at hs
    rw [if_pos q] at hs
    cases hs
  · have e : cntS s = numS s := by unfold cntS; rw [if_neg q]
    rw [e] at h hs ⊢
    obtain ⟨h1, h2, h3, h4⟩ := numS_inv hl h
    exact ⟨h1, by rw [← h4]; exact hs, h2, h3, Nat.le_of_not_lt (fun z => q (.inl z))⟩
theorem lstN_inv : ∀ (n : Nat) {s : So}, Lt s.cs → (lstN n s).2.bad = false → s.bad = false ∧ s.cs = ((lstN n s).1.flatMap fun z => encN z.toNat) ++ (lstN n s).2.cs ∧ Lt (lstN n s).2.cs ∧ (lstN n s).2.sb = s.sb ∧ (lstN n s).1.length = n
  | 0, s, hl, h => ⟨h, rfl, hl, rfl, rfl⟩
  | n + 1, s, hl, h => by
    have ih := fun hl' => lstN_inv n (s := (numS s).2) hl' h
    by_cases q : (numS s).2.bad = false
    · obtain ⟨a1, a2, a3, a4⟩ := numS_inv hl q
      obtain ⟨-, b2, b3, b4, b5⟩ := ih a3
      refine ⟨a1, ?_, b3, b4.trans a4, by show (_ :: _ : List Int).length = _; rw [List.length_cons, b5]⟩
      show s.cs = ((((numS s).1 : Int) :: (lstN n (numS s).2).1).flatMap fun z => encN z.toNat) ++ (lstN n (numS s).2).2.cs
      rw [List.flatMap_cons, List.append_assoc, ← b2, Int.toNat_natCast]
      exact a2
    · exfalso
      have hlt : Lt (numS s).2.cs := fun x hx => hl x (numB_sub _ _ x hx)
      exact q (ih hlt).1
theorem lstS_inv {s : So} (hl : Lt s.cs) (h : (lstS s).2.bad = false) (hs : (lstS s).2.sb = false) : s.bad = false ∧ s.sb = false ∧ s.cs = encZs (lstS s).1 ++ (lstS s).2.cs ∧ Lt (lstS s).2.cs := by
  have hlt : Lt (cntS s).2.cs := fun x hx => hl x (by
    unfold cntS at hx
    split at hx
    · exact numB_sub _ _ x hx
    · exact numB_sub _ _ x hx)
  obtain ⟨b1, b2, b3, b4, b5⟩ := lstN_inv (cntS s).1 hlt h
  have hs2 : (cntS s).2.sb = false := b4.symm.trans hs
  obtain ⟨a1, a2, a3, a4, a5⟩ := cntS_inv hl b1 hs2
  refine ⟨a1, a2, ?_, b3⟩
  rw [a3]
  unfold encZs lstS
  rw [b5, List.append_assoc, ← b2]
theorem txtR_inv {bad : Bool} {cs t rest : List Nat} (hl : Lt cs) (h : txtR bad cs = (t, rest, false)) : bad = false ∧ cs = (encN t.length ++ t) ++ rest ∧ Lt t ∧ Lt rest := by
  obtain ⟨⟨n, c1, b1⟩, e⟩ : ∃ p, p = numB bad cs := ⟨_, rfl⟩
  unfold txtR at h
  rw [← e] at h
  dsimp only at h
  split at h
  · cases h
  · rename_i q
    injection h with h1 h2
    injection h2 with h2 _
    have hb : b1 = false := by cases b1 with | true => exact absurd (Or.inl rfl) q | false => rfl
    subst hb
    have hn : n ≤ c1.length := Nat.le_of_not_lt (fun z => q (.inr z))
    obtain ⟨a1, a2, -⟩ := numB_inv hl e.symm
    have hlc : Lt c1 := by rw [a2] at hl; exact hl.app
    have htl : t.length = n := by rw [← h1, List.length_take]; omega
    refine ⟨a1, ?_, ?_, ?_⟩
    · rw [htl, List.append_assoc, ← h1, ← h2, List.take_append_drop]; exact a2
    · rw [← h1]; exact fun x hx => hlc x (List.mem_of_mem_take hx)
    · rw [← h2]; exact fun x hx => hlc x (List.mem_of_mem_drop hx)
/-! ### keys -/
theorem usr_inv : ∀ (n : Nat) (bs : List Nat), bs.length ≤ n → ∀ u m, usr bs = some (u, m) → bs = (esc u ++ [0, 1]) ++ bs.drop m
  | _, [], _, u, m, h => by simp [usr] at h
  | 0, x :: t, hn, _, _, _ => by simp at hn
  | n + 1, x :: t, hn, u, m, h => by
    have hn' : t.length ≤ n := by simpa using hn
    rw [usr.eq_def (x :: t)] at h
    dsimp only at h
    split at h
    · rename_i hx
      rw [Option.map_eq_some_iff] at h
      obtain ⟨⟨u', m'⟩, hq, he⟩ := h
      injection he with h1 h2
      subst h1 h2
      have ih := usr_inv n t hn' u' m' hq
      rw [esc_n _ hx, List.drop_succ_cons]
      show x :: t = x :: ((esc u' ++ [0, 1]) ++ t.drop m')
      rw [← ih]
    · rename_i hx
      have hx0 : x = 0 := by omega
      subst hx0
      split at h
      · cases h
      · rename_i y v
        split at h
        · rename_i hy
          injection h with h
          injection h with h1 h2
          subst h1 h2 hy
          rfl
        · split at h
          · rename_i hy
            rw [Option.map_eq_some_iff] at h
            obtain ⟨⟨u', m'⟩, hq, he⟩ := h
            injection he with h1 h2
            subst h1 h2 hy
            have ih := usr_inv n v (by simp at hn'; omega) u' m' hq
            rw [esc_z]
            show 0 :: 255 :: v = 0 :: 255 :: ((esc u' ++ [0, 1]) ++ v.drop m')
            rw [← ih]
          · cases h
theorem bytR_inv {bad : Bool} {bs : List Nat} {x : Nat} {rest : List Nat} (h : bytR bad bs = (x, rest, false)) : bad = false ∧ bs = x :: rest := by
  match bad, bs, h with
  | true, bs, h => cases h
  | false, [], h => cases h
  | false, y :: t, h => injection h with h1 h2; injection h2 with h2 _; exact ⟨rfl, by rw [h1, h2]⟩
theorem bytN_add : ∀ (n q x : Nat), bytN n (x * 256 ^ n + q) = bytN n q := fun n => by
  have : ∀ (k m q x : Nat), k ≤ m → bytN k (x * 256 ^ m + q) = bytN k q := by
    intro k
    induction k with
    | zero => intro m q x _; rfl
    | succ k ih =>
      intro m q x hk
      show ((x * 256 ^ m + q) / 256 ^ k % 256) :: bytN k (x * 256 ^ m + q) = (q / 256 ^ k % 256) :: bytN k q
      rw [ih m q x (by omega)]
      congr 1
      obtain ⟨d, rfl⟩ : ∃ d, m = k + 1 + d := ⟨m - (k + 1), by omega⟩
      have hp : 0 < 256 ^ k := Nat.pow_pos (by omega)
      have e : x * 256 ^ (k + 1 + d) + q = 256 ^ k * (256 * (x * 256 ^ d)) + q := by
        congr 1
        rw [Nat.pow_add, Nat.pow_succ, Nat.mul_left_comm, Nat.mul_assoc, Nat.mul_left_comm 256 x]
      rw [e, Nat.mul_add_div hp, Nat.mul_add_mod]
  exact fun q x => this n n q x (Nat.le_refl _)
theorem agR_inv : ∀ (n acc : Nat) {bad : Bool} {bs : List Nat} {a : Nat} {rest : List Nat}, Lt bs → agR n acc bad bs = (a, rest, false) → ∃ q, q < 256 ^ n ∧ a = acc * 256 ^ n + q ∧ bad = false ∧ bs = bytN n q ++ rest
  | 0, acc, bad, bs, a, rest, hl, h => by
    injection h with h1 h2
    injection h2 with h2 h3
    exact ⟨0, by simp, by rw [h1]; simp, h3, by rw [h2]; rfl⟩
  | n + 1, acc, bad, bs, a, rest, hl, h => by
    obtain ⟨⟨x, c1, b1⟩, e⟩ : ∃ p, p = bytR bad bs := ⟨_, rfl⟩
    unfold agR at h
    rw [← e] at h
    dsimp only at h
    have hlc : Lt c1 := fun y hy => (bytR_lt (bad := bad) hl).2 y (by rw [← e]; exact hy)
    obtain ⟨q, q1, q2, q3, q4⟩ := agR_inv n _ hlc h
    subst q3
    obtain ⟨r1, r2⟩ := bytR_inv e.symm
    have hx : x < 256 := hl x (by rw [r2]; exact List.mem_cons_self ..)
    have hp : 0 < 256 ^ n := Nat.pow_pos (by omega)
    refine ⟨x * 256 ^ n + q, ?_, ?_, r1, ?_⟩
    · rw [Nat.pow_succ, Nat.mul_comm (256 ^ n) 256]
      have : x * 256 ^ n ≤ 255 * 256 ^ n := Nat.mul_le_mul_right _ (by omega)
      omega
    · rw [q2, Nat.pow_succ, Nat.add_mul, Nat.mul_assoc, Nat.mul_comm 256 (256 ^ n), Nat.add_assoc]
    · rw [r2, bytN]
      have e1 : (x * 256 ^ n + q) / 256 ^ n % 256 = x := by
        rw [Nat.mul_comm, Nat.mul_add_div hp, Nat.div_eq_of_lt q1, Nat.add_zero, Nat.mod_eq_of_lt hx]
      rw [e1, q4, bytN_add n q x]; rfl
theorem bytR_sub {bad : Bool} {bs : List Nat} : ∀ x ∈ (bytR bad bs).2.1, x ∈ bs := by
  intro x h
  match bad, bs, h with
  | true, bs, h => exact h
  | false, [], h => exact h
  | false, y :: t, h => exact List.mem_cons_of_mem _ h
theorem agR_sub : ∀ (n acc : Nat) (bad : Bool) (bs : List Nat), ∀ x ∈ (agR n acc bad bs).2.1, x ∈ bs
  | 0, _, _, _, x, h => h
  | n + 1, acc, bad, bs, x, h => bytR_sub x (agR_sub n _ _ _ x h)
theorem txtR_ok' {bad : Bool} {cs : List Nat} (h1 : Lt cs) : Lt (txtR bad cs).2.1 := by
  have h3 : Lt (numB bad cs).2.1 := fun x hx => h1 x (numB_sub _ _ x hx)
  unfold txtR
  split
  · exact h3
  · exact fun x hx => h3 x (List.mem_of_mem_drop hx)
theorem keyR_inv {t : List Nat} (hl : Lt t) (h : (keyR t).2 = true) : t = encK (keyR t).1 ∧ okK (keyR t).1 = true := by
  obtain ⟨⟨u, m⟩, hu⟩ : ∃ p, usr t = some p := by
    cases q : usr t with
    | some p => exact ⟨p, rfl⟩
    | none =>
      unfold keyR at h
      rw [q] at h
      simp at h
  obtain ⟨⟨acc, c1, b1⟩, ha⟩ : ∃ p, p = agR 6 0 false (t.drop m) := ⟨_, rfl⟩
  obtain ⟨⟨x, c2, b2⟩, hx⟩ : ∃ p, p = bytR b1 c1 := ⟨_, rfl⟩
  have hk : keyR t = (⟨strOf u, 1099511627776 - (acc : Int), 255 - (x : Int)⟩, true && (!b2 && c2.isEmpty) && okK ⟨strOf u, 1099511627776 - (acc : Int), 255 - (x : Int)⟩) := by
    unfold keyR
    rw [hu]
    dsimp only [Option.getD, Option.isSome]
    rw [← ha]
    dsimp only
    rw [← hx]
  rw [hk] at h ⊢
  dsimp only at h ⊢
  simp only [Bool.and_eq_true, Bool.not_eq_true', List.isEmpty_iff] at h
  obtain ⟨⟨-, h1, h2⟩, h3⟩ := h
  subst h1 h2
  refine ⟨?_, h3⟩
  have e1 := usr_inv _ t (Nat.le_refl _) u m hu
  have hul : Lt u := (usr_le _ t (Nat.le_refl _) (u, m) hu).2.2 hl
  have hdl : Lt (t.drop m) := fun y hy => hl y (List.mem_of_mem_drop hy)
  have hcl : Lt c1 := fun y hy => by
    have := agR_sub 6 0 false (t.drop m)
    rw [← ha] at this
    exact hdl y (this y hy)
  obtain ⟨hb1, hc1⟩ := bytR_inv hx.symm
  subst hb1
  obtain ⟨q, q1, q2, -, q4⟩ := agR_inv 6 0 hdl ha.symm
  have hacc : acc = q := by rw [q2]; omega
  subst hacc
  unfold okK at h3
  simp only [Bool.and_eq_true, decide_eq_true_eq] at h3
  unfold encK
  dsimp only
  rw [bytesOf_strOf hul]
  have e2 : (1099511627776 - (1099511627776 - (acc : Int))).toNat = acc := by omega
  have e3 : (255 - (255 - (x : Int))).toNat = x := by omega
  rw [e2, e3]
  rw [q4, hc1] at e1
  rw [List.append_assoc]
  exact e1
theorem keyS_inv {s : So} (hl : Lt s.cs) (h : (keyS s).2.bad = false) (hs : (keyS s).2.sb = false) : s.bad = false ∧ s.sb = false ∧ s.cs = txtB (encK (keyS s).1) ++ (keyS s).2.cs ∧ Lt (keyS s).2.cs ∧ okK (keyS s).1 = true := by
  obtain ⟨⟨t, r, b⟩, e⟩ : ∃ p, p = txtR s.bad s.cs := ⟨_, rfl⟩
  have hk : keyS s = (keyO t, ⟨r, b, s.sb || !(keyR t).2⟩) := by unfold keyS; rw [← e]
  rw [hk] at h hs ⊢
  dsimp only at h hs ⊢
  subst h
  obtain ⟨a1, a2, a3, a4⟩ := txtR_inv hl e.symm
  have h1 : s.sb = false := by cases q : s.sb with | true => rw [q] at hs; cases hs | false => rfl
  have h2 : (keyR t).2 = true := by rw [h1] at hs; cases q : (keyR t).2 with | true => rfl | false => rw [q] at hs; cases hs
  obtain ⟨k1, k2⟩ := keyR_inv a3 h2
  have hko : keyO t = (keyR t).1 := by unfold keyO; rw [if_pos h2]
  rw [hko]
  refine ⟨a1, h1, ?_, a4, k2⟩
  rw [a2]
  unfold txtB
  rw [← k1]
/-! ### places -/
theorem rfN_inv : ∀ (n : Nat) {s : So}, Lt s.cs → (rfN n s).2.bad = false → s.bad = false ∧ s.cs = ((rfN n s).1.flatMap encRf) ++ (rfN n s).2.cs ∧ Lt (rfN n s).2.cs ∧ (rfN n s).2.sb = s.sb ∧ (rfN n s).1.length = n
  | 0, s, hl, h => ⟨h, rfl, hl, rfl, rfl⟩
  | n + 1, s, hl, h => by
    have hl1 : Lt (numS s).2.cs := fun x hx => hl x (numB_sub _ _ x hx)
    have hl2 : Lt (numS (numS s).2).2.cs := fun x hx => hl1 x (numB_sub _ _ x hx)
    obtain ⟨c1, c2, c3, c4, c5⟩ := rfN_inv n (s := (numS (numS s).2).2) hl2 h
    obtain ⟨b1, b2, b3, b4⟩ := numS_inv hl1 c1
    obtain ⟨a1, a2, a3, a4⟩ := numS_inv hl b1
    refine ⟨a1, ?_, c3, (c4.trans b4).trans a4, by show (_ :: _ : List (Int × Int)).length = _; rw [List.length_cons, c5]⟩
    show s.cs = (((((numS s).1 : Int), ((numS (numS s).2).1 : Int)) :: (rfN n (numS (numS s).2).2).1).flatMap encRf) ++ (rfN n (numS (numS s).2).2).2.cs
    rw [List.flatMap_cons, List.append_assoc, ← c2]
    show s.cs = (encN ((((numS s).1 : Nat) : Int).toNat) ++ encN ((((numS (numS s).2).1 : Nat) : Int).toNat)) ++ _
    rw [Int.toNat_natCast, Int.toNat_natCast, List.append_assoc, ← b2]
    exact a2
theorem cnt_lt {s : So} (hl : Lt s.cs) : Lt (cntS s).2.cs := fun x hx => hl x (by
  unfold cntS at hx
  split at hx
  · exact numB_sub _ _ x hx
  · exact numB_sub _ _ x hx)
theorem key_lt {s : So} (hl : Lt s.cs) : Lt (keyS s).2.cs := by
  have := (txtR_ok' (bad := s.bad) hl)
  exact this
theorem plS_inv {s : So} (hl : Lt s.cs) (h : (plS s).2.bad = false) (hs : (plS s).2.sb = false) : s.bad = false ∧ s.sb = false ∧ s.cs = encP (plS s).1 ++ (plS s).2.cs ∧ Lt (plS s).2.cs := by
  obtain ⟨⟨n1, s1⟩, e1⟩ : ∃ p, p = numS s := ⟨_, rfl⟩
  obtain ⟨⟨n2, s2⟩, e2⟩ : ∃ p, p = numS s1 := ⟨_, rfl⟩
  obtain ⟨⟨n3, s3⟩, e3⟩ : ∃ p, p = numS s2 := ⟨_, rfl⟩
  obtain ⟨⟨k1, s4⟩, e4⟩ : ∃ p, p = keyS s3 := ⟨_, rfl⟩
  obtain ⟨⟨k2, s5⟩, e5⟩ : ∃ p, p = keyS s4 := ⟨_, rfl⟩
  obtain ⟨⟨m, s6⟩, e6⟩ : ∃ p, p = cntS s5 := ⟨_, rfl⟩
  obtain ⟨⟨rf, s7⟩, e7⟩ : ∃ p, p = rfN m s6 := ⟨_, rfl⟩
  have hp : plS s = (((n1 : Int), (⟨(n2 : Int), (n3 : Int), k1, k2, rf⟩ : Mt)), s7) := by
    have e0 : phS s = (⟨n1, n2, n3, k1, k2⟩, s5) := by simp only [phS, e1.symm, e2.symm, e3.symm, e4.symm, e5.symm]
    unfold plS rfS
    rw [e0]
    dsimp only
    rw [← e6]
    dsimp only
    rw [← e7]
    rfl
  rw [hp] at h hs ⊢
  dsimp only at h hs ⊢
  have l1 : Lt s1.cs := by have := fun x hx => hl x (numB_sub s.bad s.cs x hx); rw [show s1 = (numS s).2 by rw [← e1]]; exact this
  have l2 : Lt s2.cs := by have := fun x hx => l1 x (numB_sub s1.bad s1.cs x hx); rw [show s2 = (numS s1).2 by rw [← e2]]; exact this
  have l3 : Lt s3.cs := by have := fun x hx => l2 x (numB_sub s2.bad s2.cs x hx); rw [show s3 = (numS s2).2 by rw [← e3]]; exact this
  have l4 : Lt s4.cs := by have := key_lt l3; rw [← e4] at this; exact this
  have l5 : Lt s5.cs := by have := key_lt l4; rw [← e5] at this; exact this
  have l6 : Lt s6.cs := by have := cnt_lt l5; rw [← e6] at this; exact this
  have i7 := rfN_inv m l6
  rw [← e7] at i7
  obtain ⟨g1, g2, g3, g4, g5⟩ := i7 h
  dsimp only at g2 g3 g4 g5
  have i6 := cntS_inv l5
  rw [← e6] at i6
  obtain ⟨f1, f2, f3, -, f5⟩ := i6 g1 (g4.symm.trans hs)
  have i5 := keyS_inv l4
  rw [← e5] at i5
  obtain ⟨d1, d2, d3, -, -⟩ := i5 f1 f2
  have i4 := keyS_inv l3
  rw [← e4] at i4
  obtain ⟨c1, c2, c3, -, -⟩ := i4 d1 d2
  have i3 := numS_inv l2
  rw [← e3] at i3
  obtain ⟨b1, b2, -, b4⟩ := i3 c1
  have i2 := numS_inv l1
  rw [← e2] at i2
  obtain ⟨a1, a2, -, a4⟩ := i2 b1
  have i1 := numS_inv hl
  rw [← e1] at i1
  obtain ⟨z1, z2, -, z4⟩ := i1 a1
  dsimp only at b2 b4 a2 a4 z2 z4 c3 d3 f3
  refine ⟨z1, ((z4.symm.trans a4.symm).trans b4.symm).trans c2, ?_, g3⟩
  unfold encP
  dsimp only
  rw [z2, a2, b2, c3, d3, f3, g2, g5]
  simp only [Int.toNat_natCast, List.append_assoc]
theorem rf_lt : ∀ (n : Nat) {s : So}, Lt s.cs → Lt (rfN n s).2.cs
  | 0, _, h => h
  | n + 1, s, h => rf_lt n (s := (numS (numS s).2).2) (fun x hx => h x (numB_sub _ _ x (numB_sub _ _ x hx)))
theorem pl_lt {s : So} (hl : Lt s.cs) : Lt (plS s).2.cs := by
  have l1 : Lt (numS s).2.cs := fun x hx => hl x (numB_sub _ _ x hx)
  have l2 : Lt (numS (numS s).2).2.cs := fun x hx => l1 x (numB_sub _ _ x hx)
  have l3 : Lt (numS (numS (numS s).2).2).2.cs := fun x hx => l2 x (numB_sub _ _ x hx)
  exact rf_lt _ (cnt_lt (key_lt (key_lt l3)))
theorem adN_inv : ∀ (n : Nat) {s : So}, Lt s.cs → (adN n s).2.bad = false → (adN n s).2.sb = false → s.bad = false ∧ s.sb = false ∧ s.cs = ((adN n s).1.flatMap encP) ++ (adN n s).2.cs ∧ Lt (adN n s).2.cs ∧ (adN n s).1.length = n
  | 0, s, hl, h, hs => ⟨h, hs, rfl, hl, rfl⟩
  | n + 1, s, hl, h, hs => by
    have hl1 : Lt (plS s).2.cs := pl_lt hl
    obtain ⟨c1, c2, c3, c4, c5⟩ := adN_inv n (s := (plS s).2) hl1 h hs
    obtain ⟨a1, a2, a3, a4⟩ := plS_inv hl c1 c2
    refine ⟨a1, a2, ?_, c4, by show (_ :: _ : List (Int × Mt)).length = _; rw [List.length_cons, c5]⟩
    show s.cs = (((plS s).1 :: (adN n (plS s).2).1).flatMap encP) ++ (adN n (plS s).2).2.cs
    rw [List.flatMap_cons, List.append_assoc, ← c3]
    exact a3
end Go.Proofs.Ythjjelomlgmllaa.Tithe
namespace Go.Proofs.Ythjjelomlgmllaa.Tithe
open Go.RowKit Go.Sort Go.Shelf
set_option linter.unusedVariables false
theorem encP_psM (ad : List (Int × Mr)) : (ad.flatMap fun p => encP (p.1, p.2.1)) = (psM ad).flatMap encP := by
  unfold psM
  rw [List.flatMap_map]
theorem lst_lt {s : So} (hl : Lt s.cs) : Lt (lstS s).2.cs := by
  have : ∀ (n : Nat) {s : So}, Lt s.cs → Lt (lstN n s).2.cs := by
    intro n
    induction n with
    | zero => intro s h; exact h
    | succ n ih => intro s h; exact ih (s := (numS s).2) (fun x hx => h x (numB_sub _ _ x hx))
  exact this _ (cnt_lt hl)
theorem parS_inv {bs : List Nat} {ad : List (Int × Mr)} (hl : Lt bs) (hp : psM ad = (parS bs).ad) (h : okPd (parS bs) ad = true) : bs = encR ⟨decide ((parS bs).wh = 1), ((parS bs).sq : Int), (parS bs).lg, ad, (parS bs).dr⟩ := by
  obtain ⟨⟨w1, s1⟩, e1⟩ : ∃ p, p = numS ⟨bs, false, false⟩ := ⟨_, rfl⟩
  obtain ⟨⟨sq, s2⟩, e2⟩ : ∃ p, p = numS s1 := ⟨_, rfl⟩
  obtain ⟨⟨lg, s3⟩, e3⟩ : ∃ p, p = lstS s2 := ⟨_, rfl⟩
  obtain ⟨⟨dr, s4⟩, e4⟩ : ∃ p, p = lstS s3 := ⟨_, rfl⟩
  obtain ⟨⟨m, s5⟩, e5⟩ : ∃ p, p = cntS s4 := ⟨_, rfl⟩
  obtain ⟨⟨al, s6⟩, e6⟩ : ∃ p, p = adN m s5 := ⟨_, rfl⟩
  have hP : parS bs = ⟨w1, sq, lg, dr, al, s6⟩ := by
    have e : adS s4 = (al, s6) := by unfold adS; rw [← e5]; dsimp only; rw [← e6]
    simp only [parS, e1.symm, e2.symm, e3.symm, e4.symm, e]
  rw [hP] at hp h ⊢
  unfold okPd at h
  dsimp only at h hp ⊢
  simp only [Bool.and_eq_true, Bool.not_eq_true', List.isEmpty_iff, decide_eq_true_eq] at h
  obtain ⟨⟨⟨hsb, hw⟩, hbad, hcs⟩, -⟩ := h
  have l1 : Lt s1.cs := by have := fun x hx => hl x (numB_sub false bs x hx); rw [show s1 = (numS ⟨bs, false, false⟩).2 by rw [← e1]]; exact this
  have l2 : Lt s2.cs := by have := fun x hx => l1 x (numB_sub s1.bad s1.cs x hx); rw [show s2 = (numS s1).2 by rw [← e2]]; exact this
  have l3 : Lt s3.cs := by have := lst_lt l2; rw [← e3] at this; exact this
  have l4 : Lt s4.cs := by have := lst_lt l3; rw [← e4] at this; exact this
  have l5 : Lt s5.cs := by have := cnt_lt l4; rw [← e5] at this; exact this
  have i6 := adN_inv m l5
  rw [← e6] at i6
  obtain ⟨f1, f2, f3, -, f5⟩ := i6 hbad hsb
  dsimp only at f3 f5
  have i5 := cntS_inv l4
  rw [← e5] at i5
  obtain ⟨d1, d2, d3, -, -⟩ := i5 f1 f2
  have i4 := lstS_inv l3
  rw [← e4] at i4
  obtain ⟨c1, c2, c3, -⟩ := i4 d1 d2
  have i3 := lstS_inv l2
  rw [← e3] at i3
  obtain ⟨b1, b2, b3, -⟩ := i3 c1 c2
  have i2 := numS_inv l1
  rw [← e2] at i2
  obtain ⟨a1, a2, -, -⟩ := i2 b1
  have i1 := numS_inv (s := ⟨bs, false, false⟩) hl
  rw [← e1] at i1
  obtain ⟨-, z2, -, -⟩ := i1 a1
  dsimp only at z2 a2 b3 c3 d3
  have hlen : ad.length = m := by
    have := congrArg List.length hp
    unfold psM at this
    rw [List.length_map] at this
    rw [this, f5]
  have hwh : (if decide (w1 = 1) = true then 1 else 0) = w1 := by
    by_cases q : w1 = 1
    · rw [if_pos (by simpa using q), q]
    · rw [if_neg (by simpa using q)]; omega
  unfold encR
  dsimp only
  rw [hwh, encP_psM, hp, hlen, Int.toNat_natCast, z2, a2, b3, c3, d3, f3, hcs, List.append_nil]
  simp only [List.append_assoc]
/-! ### the other way round -/
theorem numS_enc {n : Nat} {rest : List Nat} {sb : Bool} (h : n < 9223372036854775808) : numS ⟨encN n ++ rest, false, sb⟩ = (n, ⟨rest, false, sb⟩) := by
  unfold numS numB
  dsimp only
  rw [if_neg (by decide), numR_enc n rest h]
theorem cntS_enc {n : Nat} {rest : List Nat} {sb : Bool} (h : n ≤ 64) : cntS ⟨encN n ++ rest, false, sb⟩ = (n, ⟨rest, false, sb⟩) := by
  unfold cntS
  rw [numS_enc (by omega), if_neg (by simp; omega)]
theorem lstN_enc : ∀ (l : List Int) {rest : List Nat} {sb : Bool}, (∀ z ∈ l, 0 ≤ z ∧ z < 64) → lstN l.length ⟨(l.flatMap fun z => encN z.toNat) ++ rest, false, sb⟩ = (l, ⟨rest, false, sb⟩)
  | [], _, _, _ => rfl
  | z :: t, rest, sb, h => by
    have hz := h z (List.mem_cons_self ..)
    have ih := lstN_enc t (rest := rest) (sb := sb) (fun y hy => h y (List.mem_cons_of_mem _ hy))
    rw [List.flatMap_cons, List.append_assoc]
    show (((numS _).1 : Int) :: (lstN t.length (numS _).2).1, (lstN t.length (numS _).2).2) = _
    rw [numS_enc (by omega)]
    dsimp only
    rw [ih, Int.toNat_of_nonneg hz.1]
theorem lstS_enc (l : List Int) {rest : List Nat} {sb : Bool} (h : ∀ z ∈ l, 0 ≤ z ∧ z < 64) (hn : l.length ≤ 64) : lstS ⟨encZs l ++ rest, false, sb⟩ = (l, ⟨rest, false, sb⟩) := by
  unfold lstS encZs
  rw [List.append_assoc, cntS_enc hn]
  exact lstN_enc l h
theorem txtR_enc {t rest : List Nat} (h : t.length < 9223372036854775808) : txtR false (txtB t ++ rest) = (t, rest, false) := by
  have e : numB false (txtB t ++ rest) = (t.length, t ++ rest, false) := by
    unfold txtB numB
    rw [if_neg (by decide), List.append_assoc]
    exact numR_enc _ _ h
  unfold txtR
  rw [e]
  dsimp only
  rw [if_neg (by simp), List.take_left, List.drop_left]
theorem usr_enc : ∀ (u rest : List Nat), usr (esc u ++ (0 :: 1 :: rest)) = some (u, (esc u).length + 2)
  | [], rest => by rw [usr.eq_def]; rfl
  | x :: t, rest => by
    have ih := usr_enc t rest
    by_cases hx : x = 0
    · subst hx
      rw [esc_z, usr.eq_def]
      show (if (0 : Nat) ≠ 0 then _ else (if (255 : Nat) = 1 then _ else if (255 : Nat) = 255 then (usr (esc t ++ (0 :: 1 :: rest))).map (fun p => (0 :: p.1, p.2 + 2)) else none)) = _
      rw [if_neg (by decide), if_neg (by decide), if_pos rfl, ih]
      rfl
    · rw [esc_n t hx, usr.eq_def]
      show (if x ≠ 0 then (usr (esc t ++ (0 :: 1 :: rest))).map (fun p => (x :: p.1, p.2 + 1)) else _) = _
      rw [if_pos hx, ih]
      rfl
theorem agR_enc : ∀ (n acc A : Nat) (rest : List Nat), A < 256 ^ n → agR n acc false (bytN n A ++ rest) = (acc * 256 ^ n + A, rest, false)
  | 0, acc, A, rest, h => by
    have : A = 0 := by simpa using h
    subst this
    show (acc, rest, false) = _
    simp
  | n + 1, acc, A, rest, h => by
    have hp : 0 < 256 ^ n := Nat.pow_pos (by omega)
    rw [Nat.pow_succ] at h
    have hx : A / 256 ^ n < 256 := Nat.div_lt_of_lt_mul h
    have hm : A / 256 ^ n % 256 = A / 256 ^ n := Nat.mod_eq_of_lt hx
    have hb : bytN n A = bytN n (A % 256 ^ n) := by
      have := bytN_add n (A % 256 ^ n) (A / 256 ^ n)
      rw [Nat.mul_comm, Nat.div_add_mod] at this
      exact this
    show agR n (acc * 256 + (A / 256 ^ n % 256)) false (bytN n A ++ rest) = _
    rw [hm, hb, agR_enc n _ _ rest (Nat.mod_lt _ hp), Nat.pow_succ]
    have e1 := Nat.div_add_mod A (256 ^ n)
    have e2 : (acc * 256 + A / 256 ^ n) * 256 ^ n + A % 256 ^ n = acc * (256 ^ n * 256) + A := by
      rw [Nat.add_mul, Nat.mul_assoc, Nat.mul_comm 256 (256 ^ n), Nat.mul_comm (A / 256 ^ n)]
      omega
    rw [e2]
theorem strOf_bytesOf (s : ByteArray) : strOf (bytesOf s) = s := by
  obtain ⟨⟨l⟩⟩ := s
  unfold strOf bytesOf
  congr 2
  show ((l.map UInt8.toNat).map UInt8.ofNat) = l
  rw [List.map_map]
  conv => rhs; rw [← List.map_id l]
  apply List.map_congr_left
  intro x _
  exact UInt8.ofNat_toNat
theorem keyR_enc {k : Ky} (h : okK k = true) : keyR (encK k) = (k, true) := by
  obtain ⟨u, s, kd⟩ := k
  have h0 := h
  unfold okK at h
  simp only [Bool.and_eq_true, decide_eq_true_eq] at h
  obtain ⟨⟨⟨⟨⟨h1, h2⟩, h3⟩, h4⟩, h5⟩, h6⟩ := h
  have eE : encK ⟨u, s, kd⟩ = esc (bytesOf u) ++ (0 :: 1 :: (bytN 6 (1099511627776 - s).toNat ++ [(255 - kd).toNat])) := by
    unfold encK
    simp only [List.append_assoc]; rfl
  have eu := usr_enc (bytesOf u) (bytN 6 (1099511627776 - s).toNat ++ [(255 - kd).toNat])
  have ed : (esc (bytesOf u) ++ (0 :: 1 :: (bytN 6 (1099511627776 - s).toNat ++ [(255 - kd).toNat]))).drop ((esc (bytesOf u)).length + 2) = bytN 6 (1099511627776 - s).toNat ++ [(255 - kd).toNat] := by
    rw [← List.drop_drop, List.drop_left]; rfl
  have ea := agR_enc 6 0 (1099511627776 - s).toNat [(255 - kd).toNat] (by omega)
  unfold keyR
  rw [eE, eu]
  dsimp only [Option.getD, Option.isSome]
  rw [ed, ea]
  dsimp only [bytR, List.isEmpty]
  rw [strOf_bytesOf]
  have e1 : (1099511627776 : Int) - ((0 * 256 ^ 6 + (1099511627776 - s).toNat : Nat) : Int) = s := by omega
  have e2 : (255 : Int) - (((255 - kd).toNat : Nat) : Int) = kd := by omega
  rw [e1, e2, h0]; rfl
theorem keyS_enc {k : Ky} {rest : List Nat} {sb : Bool} (h : okK k = true) : keyS ⟨txtB (encK k) ++ rest, false, sb⟩ = (k, ⟨rest, false, sb⟩) := by
  have hl : (encK k).length < 9223372036854775808 := by
    have := encK_len k
    have := okK_size h
    omega
  have e := keyR_enc h
  unfold keyS
  dsimp only
  rw [txtR_enc hl]
  dsimp only
  unfold keyO
  rw [e]
  simp
theorem rfN_enc : ∀ (l : List (Int × Int)) {rest : List Nat} {sb : Bool}, (∀ r ∈ l, 0 ≤ r.1 ∧ r.1 < 64 ∧ 1 ≤ r.2 ∧ r.2 ≤ 1073741824) → rfN l.length ⟨(l.flatMap encRf) ++ rest, false, sb⟩ = (l, ⟨rest, false, sb⟩)
  | [], _, _, _ => rfl
  | (x, y) :: t, rest, sb, h => by
    have hz := h (x, y) (List.mem_cons_self ..)
    dsimp only at hz
    have ih := rfN_enc t (rest := rest) (sb := sb) (fun y hy => h y (List.mem_cons_of_mem _ hy))
    rw [List.flatMap_cons, List.append_assoc]
    show ((((numS _).1 : Int), ((numS (numS _).2).1 : Int)) :: (rfN t.length (numS (numS _).2).2).1, (rfN t.length (numS (numS _).2).2).2) = _
    unfold encRf
    dsimp only
    rw [List.append_assoc, numS_enc (by omega)]
    dsimp only
    rw [numS_enc (by omega)]
    dsimp only
    have ih2 : rfN t.length ⟨(t.flatMap fun r => encN r.1.toNat ++ encN r.2.toNat) ++ rest, false, sb⟩ = (t, ⟨rest, false, sb⟩) := ih
    rw [ih2, Int.toNat_of_nonneg hz.1, Int.toNat_of_nonneg (by omega)]
theorem plS_enc {p : Int × Mt} (h : PlIs p) {rest : List Nat} {sb : Bool} : plS ⟨encP p ++ rest, false, sb⟩ = (p, ⟨rest, false, sb⟩) := by
  obtain ⟨lv, ⟨z, n, a, b, l⟩⟩ := p
  obtain ⟨l0, l4, z0, z64, n1, n2, ka, kb, rs, rn⟩ := h
  dsimp only at l0 l4 z0 z64 n1 n2 ka kb rs rn
  have e : encP (lv, ⟨z, n, a, b, l⟩) ++ rest = encN lv.toNat ++ (encN z.toNat ++ (encN n.toNat ++ (txtB (encK a) ++ (txtB (encK b) ++ (encN l.length ++ (l.flatMap encRf ++ rest)))))) := by
    unfold encP
    simp only [List.append_assoc]
  rw [e]
  have e0 : phS ⟨encN lv.toNat ++ (encN z.toNat ++ (encN n.toNat ++ (txtB (encK a) ++ (txtB (encK b) ++ (encN l.length ++ (l.flatMap encRf ++ rest)))))), false, sb⟩ = (⟨lv.toNat, z.toNat, n.toNat, a, b⟩, ⟨encN l.length ++ (l.flatMap encRf ++ rest), false, sb⟩) := by
    unfold phS
    dsimp only
    rw [numS_enc (by omega)]
    dsimp only
    rw [numS_enc (by omega)]
    dsimp only
    rw [numS_enc (by omega)]
    dsimp only
    rw [keyS_enc ka]
    dsimp only
    rw [keyS_enc kb]
  unfold plS rfS
  rw [e0]
  dsimp only
  rw [cntS_enc rn]
  dsimp only
  rw [rfN_enc l rs]
  unfold Ph.pl
  dsimp only
  rw [Int.toNat_of_nonneg l0, Int.toNat_of_nonneg z0, Int.toNat_of_nonneg (by omega)]
theorem adN_enc : ∀ (l : List (Int × Mt)) {rest : List Nat} {sb : Bool}, (∀ p ∈ l, PlIs p) → adN l.length ⟨(l.flatMap encP) ++ rest, false, sb⟩ = (l, ⟨rest, false, sb⟩)
  | [], _, _, _ => rfl
  | p :: t, rest, sb, h => by
    have ih := adN_enc t (rest := rest) (sb := sb) (fun y hy => h y (List.mem_cons_of_mem _ hy))
    rw [List.flatMap_cons, List.append_assoc]
    show ((plS _).1 :: (adN t.length (plS _).2).1, (adN t.length (plS _).2).2) = _
    rw [plS_enc (h p (List.mem_cons_self ..))]
    dsimp only
    rw [ih]
theorem parS_enc {r : Rc} (h : RecIs r) : parS (encR r) = ⟨if r.wh then 1 else 0, r.seq.toNat, r.logs, r.drop, psM r.add, ⟨[], false, false⟩⟩ := by
  obtain ⟨wh, s, lg, ad, dr⟩ := r
  obtain ⟨s0, s1, lz, ln, dz, dn, an, ap⟩ := h
  dsimp only at s0 s1 lz ln dz dn an ap ⊢
  have hp : ∀ p ∈ psM ad, PlIs p := fun p hp => by
    unfold psM at hp
    obtain ⟨x, hx, rfl⟩ := List.mem_map.1 hp
    exact ap x hx
  have hpl : (psM ad).length = ad.length := by unfold psM; rw [List.length_map]
  have e : encR ⟨wh, s, lg, ad, dr⟩ = encN (if wh then 1 else 0) ++ (encN s.toNat ++ (encZs lg ++ (encZs dr ++ (encN ad.length ++ ((psM ad).flatMap encP ++ []))))) := by
    unfold encR
    dsimp only
    rw [encP_psM]
    simp only [List.append_assoc, List.append_nil]
  have ea : adS ⟨encN ad.length ++ ((psM ad).flatMap encP ++ []), false, false⟩ = (psM ad, ⟨[], false, false⟩) := by
    unfold adS
    rw [cntS_enc an]
    dsimp only
    rw [← hpl]
    exact adN_enc (psM ad) hp
  unfold parS
  dsimp only
  rw [e, numS_enc (by split <;> omega)]
  dsimp only
  rw [numS_enc (by omega)]
  dsimp only
  rw [lstS_enc lg lz ln]
  dsimp only
  rw [lstS_enc dr dz dn]
  dsimp only
  rw [ea]
/-- all of a record's bytes are bytes -/
theorem esc_lt : ∀ (l : List Nat), (∀ x ∈ l, x < 256) → ∀ x ∈ esc l, x < 256
  | [], _ => by intro x hx; cases hx
  | y :: t, h => by
    have ih := esc_lt t (fun x hx => h x (List.mem_cons_of_mem _ hx))
    have hy := h y (List.mem_cons_self ..)
    intro x hx
    rw [esc] at hx
    split at hx
    · rcases List.mem_cons.1 hx with rfl | hx
      · omega
      rcases List.mem_cons.1 hx with rfl | hx
      · omega
      exact ih x hx
    · rcases List.mem_cons.1 hx with rfl | hx
      · omega
      exact ih x hx
theorem bytN_lt : ∀ (n a : Nat), ∀ x ∈ bytN n a, x < 256
  | 0, _ => by intro x hx; cases hx
  | n + 1, a => by
    intro x hx
    rw [bytN] at hx
    rcases List.mem_cons.1 hx with rfl | hx
    · exact Nat.mod_lt _ (by omega)
    · exact bytN_lt n a x hx
theorem encK_lt {k : Ky} (h : okK k = true) : ∀ x ∈ encK k, x < 256 := by
  have hk : 0 ≤ k.k := by
    unfold okK at h
    simp only [Bool.and_eq_true, decide_eq_true_eq] at h
    omega
  intro x hx
  unfold encK at hx
  rcases List.mem_append.1 hx with hx | hx
  rcases List.mem_append.1 hx with hx | hx
  rcases List.mem_append.1 hx with hx | hx
  · exact esc_lt _ (bytesOf_lt _) x hx
  · simp only [List.mem_cons, List.not_mem_nil, or_false] at hx
    omega
  · exact bytN_lt _ _ x hx
  · simp only [List.mem_cons, List.not_mem_nil, or_false] at hx
    omega
theorem flat_lt {α : Type} {f : α → List Nat} {l : List α} (h : ∀ x ∈ l, ∀ y ∈ f x, y < 256) : ∀ y ∈ l.flatMap f, y < 256 := by
  intro y hy
  obtain ⟨x, hx, hy⟩ := List.mem_flatMap.1 hy
  exact h x hx y hy
theorem app_lt {a b : List Nat} (h : ∀ x ∈ a, x < 256) (h2 : ∀ x ∈ b, x < 256) : ∀ x ∈ a ++ b, x < 256 := fun x hx => (List.mem_append.1 hx).elim (h x) (h2 x)
theorem encP_lt {p : Int × Mt} (h : PlIs p) : ∀ x ∈ encP p, x < 256 := by
  obtain ⟨l0, l4, z0, z64, n1, n2, ka, kb, rs, rn⟩ := h
  have hk : ∀ {k : Ky}, okK k = true → ∀ x ∈ txtB (encK k), x < 256 := fun hk => app_lt (encN_byte (by
    have h1 := encK_len ‹Ky›
    have h2 := okK_size hk
    omega)) (encK_lt hk)
  unfold encP
  refine app_lt (app_lt (app_lt (app_lt (app_lt (app_lt ?_ ?_) ?_) (hk ka)) (hk kb)) ?_) (flat_lt fun r hr => ?_)
  · exact encN_byte (by omega)
  · exact encN_byte (by omega)
  · exact encN_byte (by omega)
  · exact encN_byte (by omega)
  · obtain ⟨a, b, c, d⟩ := rs r hr
    exact app_lt (encN_byte (by omega)) (encN_byte (by omega))
theorem encZs_lt {l : List Int} (h : ∀ z ∈ l, 0 ≤ z ∧ z < 64) (hn : l.length ≤ 64) : ∀ x ∈ encZs l, x < 256 :=
  app_lt (encN_byte (by omega)) (flat_lt fun z hz => encN_byte (by have := h z hz; omega))
theorem encR_lt {r : Rc} (h : RecIs r) : ∀ x ∈ encR r, x < 256 := by
  obtain ⟨s0, s1, lz, ln, dz, dn, an, ap⟩ := h
  unfold encR
  refine app_lt (app_lt (app_lt (app_lt (app_lt ?_ ?_) (encZs_lt lz ln)) (encZs_lt dz dn)) ?_) (flat_lt fun p hp => encP_lt (ap p hp))
  · exact encN_byte (by split <;> omega)
  · exact encN_byte (by omega)
  · exact encN_byte (by omega)
end Go.Proofs.Ythjjelomlgmllaa.Tithe
