/- The document's batches: Right, All, Number, Text, Frame: walked. -/
import Derived.Test.YtbnodgoccmhjkaaFlatCheck
import Derived.Test.YtbnodgoccmhjkaaCoreWalk
namespace Go.Proofs.Ytbnodgoccmhjkaa.Tithe
open Go.RowKit Go.Sort Go.Shelf
set_option linter.unusedVariables false
set_option linter.unusedSimpArgs false
set_option maxRecDepth 100000
attribute [local go_sem] Oper.semAt_some
theorem okO_eq {k : Int} {u v : ByteArray} : okO ⟨k, u, v⟩ = (decide (1 ≤ u.size) && decide (u.size ≤ 64) && decide (v.size ≤ 4096) && (decide (k = 1) || decide (k = 2) && v.toList.isEmpty)) := by
  rw [Bool.eq_iff_iff]
  unfold okO
  simp only [Bool.and_eq_true, Bool.or_eq_true, decide_eq_true_eq, Bool.not_eq_true', Bool.and_eq_false_iff, decide_eq_false_iff_not, Bool.not_eq_false']
  constructor
  · rintro ⟨⟨⟨⟨⟨h1, h2⟩, h3⟩, h4⟩, h5⟩, h6⟩
    refine ⟨⟨⟨h3, h4⟩, h5⟩, ?_⟩
    rcases h6 with h6 | h6
    · left; omega
    · by_cases q : k = 1
      · exact .inl q
      · exact .inr ⟨by omega, h6⟩
  · rintro ⟨⟨⟨h3, h4⟩, h5⟩, h6⟩
    rcases h6 with h6 | ⟨h6, h7⟩
    · exact ⟨⟨⟨⟨⟨by omega, by omega⟩, h3⟩, h4⟩, h5⟩, .inl (by omega)⟩
    · exact ⟨⟨⟨⟨⟨by omega, by omega⟩, h3⟩, h4⟩, h5⟩, .inr h7⟩
theorem okO_f {k : Int} {u v : ByteArray} (h : u.size < 1 ∨ 64 < u.size ∨ 4096 < v.size ∨ (¬ k = 1 ∧ ¬ k = 2) ∨ (¬ k = 1 ∧ v.toList.isEmpty = false)) : okO ⟨k, u, v⟩ = false := by
  cases hq : okO ⟨k, u, v⟩ with
  | false => rfl
  | true =>
    exfalso
    rw [okO_eq] at hq
    simp only [Bool.and_eq_true, Bool.or_eq_true, decide_eq_true_eq] at hq
    obtain ⟨⟨⟨h3, h4⟩, h5⟩, h6⟩ := hq
    rcases h with h | h | h | ⟨h, h'⟩ | ⟨h, h'⟩
    · omega
    · omega
    · omega
    · rcases h6 with h6 | ⟨h6, -⟩ <;> omega
    · rcases h6 with h6 | ⟨-, h7⟩
      · omega
      · rw [h7] at h'; cases h'
theorem okO_t {k : Int} {u v : ByteArray} (h3 : ¬ u.size < 1) (h4 : ¬ 64 < u.size) (h5 : ¬ 4096 < v.size) (h : k = 1 ∨ (k = 2 ∧ v.toList.isEmpty = true)) : okO ⟨k, u, v⟩ = true := by
  rw [okO_eq]
  simp only [Bool.and_eq_true, Bool.or_eq_true, decide_eq_true_eq]
  exact ⟨⟨⟨by omega, by omega⟩, by omega⟩, h⟩
theorem rright_any (k : Int) (u v : ByteArray) (w : World) : Calls Try.prog 53 #[.agg #[.int .i64 k, .string u, .string v]] w fun e w' => e = .returned (.bool (okO ⟨k, u, v⟩)) ∧ Below w.heap.size w w' := by
  by_cases h1 : k = 1
  · subst h1
    go_enter Try.func53, Try.ntmps53
    go_wp2
    all_goals go_ret
    all_goals refine ⟨?_, (Below.refl _ _).alloc (Nat.le_refl _) _⟩
    all_goals first
      | (rw [okO_f (by omega)]; rfl)
      | (rw [okO_t (by omega) (by omega) (by omega) (.inl rfl)]; rfl)
  · have hk1 : (k == 1) = false := beq_eq_false_iff_ne.2 h1
    by_cases h2 : k = 2
    · subst h2
      cases hv : v.toList.isEmpty with
      | true =>
        go_enter Try.func53, Try.ntmps53
        go_wp2
        all_goals go_ret
        all_goals refine ⟨?_, (Below.refl _ _).alloc (Nat.le_refl _) _⟩
        all_goals first
          | (rw [okO_f (by omega)]; rfl)
          | (rw [okO_t (by omega) (by omega) (by omega) (.inr ⟨rfl, hv⟩)]; first | rfl | (simp [hv]; done))
      | false =>
        go_enter Try.func53, Try.ntmps53
        go_wp2
        all_goals go_ret
        all_goals refine ⟨?_, (Below.refl _ _).alloc (Nat.le_refl _) _⟩
        all_goals first
          | (rw [okO_f (by omega)]; rfl)
          | (rw [okO_f (.inr (.inr (.inr (.inr ⟨by omega, hv⟩))))]; first | rfl | (simp [hv]; done))
    · have hk2 : (k == 2) = false := beq_eq_false_iff_ne.2 h2
      go_enter Try.func53, Try.ntmps53
      go_wp2
      all_goals go_ret
      all_goals refine ⟨?_, (Below.refl _ _).alloc (Nat.le_refl _) _⟩
      all_goals (rw [okO_f (by omega)]; first | rfl | (simp [hk1, hk2]; done))
theorem okB_bad {s : Int} {l : List Bo} {n : Nat} (hn : n = l.length) (h : n < 1 ∨ 64 < n ∨ s < 0 ∨ 1099511627776 - (n : Int) < s) : okB s l = false := by
  have := chkB_bad hn h
  unfold chkB at this
  cases hq : okB s l with
  | false => rfl
  | true => rw [hq] at this; cases this
theorem okB_rest {s : Int} {l : List Bo} {n : Nat} (hn : n = l.length) (h : ¬ (n < 1 ∨ 64 < n ∨ s < 0 ∨ 1099511627776 - (n : Int) < s)) : okB s l = l.all okO := by
  unfold okB
  rw [decide_eq_true (by omega : 1 ≤ l.length), decide_eq_true (by omega : l.length ≤ 64), decide_eq_true (by omega : 0 ≤ s), decide_eq_true (by omega : s ≤ 1099511627776 - (l.length : Int))]; rfl
set_option maxHeartbeats 1600000 in
theorem rall_any (s : Int) (v : Value) (l : List Bo) (w : World) (h : IsOs w v l) (hs : -9223372036854775808 ≤ s ∧ s ≤ 9223372036854775807) : Calls Try.prog 44 #[.int .i64 s, v] w fun e w' => e = .returned (.bool (okB s l)) ∧ Below w.heap.size w w' := by
  obtain ⟨a, c, rfl, -, -, -⟩ := id h
  obtain ⟨-, hc, hm, hx⟩ := h.at
  have Hx := Lib.hid hx
  obtain ⟨n, hn⟩ : ∃ n, n = l.length := ⟨_, rfl⟩
  rw [← hn] at hc Hx ⊢
  have Hn := Lib.hid hn
  have hw : IntKind.i64.wrap (1099511627776 - (n : Int)) = 1099511627776 - (n : Int) := IntWalk.i64_in _ (by omega)
  clear h hn hx
  by_cases hbad : n < 1 ∨ 64 < n ∨ s < 0 ∨ 1099511627776 - (n : Int) < s
  · have Hbad := Lib.hid (okB_bad Hn.out hbad)
    go_enter Try.func44, Try.ntmps44
    go_wp2_with fail
    all_goals first
      | (exfalso; omega)
      | (go_ret; exact ⟨by first | (rw [Hbad.out]; rfl) | rw [Hbad.out], Below.refl _ _⟩)
  · have Hrest := Lib.hid (okB_rest Hn.out hbad)
    go_enter Try.func44, Try.ntmps44
    go_upto_region 3 with fail
    all_goals first
      | (exfalso; omega)
      | skip
    go_wp2_with fail
    go_loopw [5] (fun iv wr => ∃ k : Nat, k ≤ n ∧ iv = .int .i64 k ∧ (l.take k).all okO = true ∧ Below w.heap.size w wr) (fun iv _ => n - (intOf iv).toNat)
    case atStart => exact ⟨0, Nat.zero_le _, rfl, rfl, Below.refl _ _⟩
    case round =>
      obtain ⟨wo, rfl⟩ : ∃ wo : World, wo = wr := ⟨_, rfl⟩
      obtain ⟨k, hk, rfl, hall, hb⟩ := hrel
      have Hb := Lib.hid hb
      have Hall := Lib.hid hall
      clear hb hall
      by_cases hkn : k < n
      · obtain ⟨be, off, rfl, hcell⟩ := Hx.out (by omega)
        obtain ⟨x, hxk⟩ : ∃ x, l[k]? = some x := ⟨_, List.getElem?_eq_getElem (by rw [← Hn.out]; exact hkn)⟩
        obtain ⟨d0, d1, d2⟩ := IsOs.row (w := wo) (fun i x hi j y hj => (Hb.out.cell (block_lt_of_cell (hcell i x hi j y hj))).trans (hcell i x hi j y hj)) hxk
        have htk : (l.take (k + 1)).all okO = ((l.take k).all okO && okO x) := by rw [List.take_add_one, hxk, List.all_append]; simp
        rw [Hall.out, Bool.true_and] at htk
        have Htk := Lib.hid htk
        have Hmem := Lib.hid (List.mem_of_getElem? hxk)
        clear hcell hxk htk
        obtain ⟨kd, u, val⟩ := x
        dsimp only at d0 d1 d2
        have hr := rright_any kd u val wo
        cases hok : okO ⟨kd, u, val⟩ with
        | true =>
          rw [hok] at hr
          have Hr := Lib.hid hr
          have Ht2 : Hid ((l.take (k + 1)).all okO = true) := Lib.hid (by rw [Htk.out, hok])
          clear hr hok
          go_wp2_with fail
          refine Hr.out.mono ?_
          rintro e w2 ⟨rfl, hb2⟩
          have Hb2 := Lib.hid (Hb.out.trans (hb2.mono Hb.out.size))
          clear hb2
          go_wp2_with fail
          go_roundw
          case rel => exact ⟨k + 1, by omega, by go_num, Ht2.out, Hb2.out⟩
          case measure => simp [intOf]; omega
        | false =>
          rw [hok] at hr
          have Hr := Lib.hid hr
          have Ht2 : Hid (okB s l = false) := Lib.hid (by
            rw [Hrest.out, List.all_eq_false]
            exact ⟨_, Hmem.out, by rw [hok]; simp⟩)
          clear hr hok
          go_wp2_with fail
          refine Hr.out.mono ?_
          rintro e w2 ⟨rfl, hb2⟩
          have Hb2 := Lib.hid (Hb.out.trans (hb2.mono Hb.out.size))
          clear hb2
          go_wp2_with fail
          go_ret
          exact ⟨by rw [Ht2.out]; rfl, Hb2.out⟩
      · obtain rfl : n = k := by omega
        have Ht2 : Hid (okB s l = true) := Lib.hid (by
          rw [Hrest.out]
          have := Hall.out
          rwa [Hn.out, List.take_length] at this)
        go_wp2_with fail
        go_ret
        exact ⟨by rw [Ht2.out]; rfl, Hb.out⟩
/-- bytes of a call's own -/
abbrev OwnBs (W : World) (base : Nat) (v : Value) (l : List Nat) : Prop := W.ownsRow base 5 1 v l.length (flat byteC l)
/-- one byte more, by way of a new block -/
theorem push_bs (W : World) (base : Nat) (v : Value) (l : List Nat) (c : Nat) (h : OwnBs W base v l) (hl : l.length ≤ 1000000) (hb : base ≤ W.heap.size) :
    ∃ (a' : Option Addr) (n' c' : Nat) (w2 : World), (Builtin.append_ #[95, 95] 95 #[v, .slice (some ⟨W.heap.size, 0, none⟩) 1 1]).run Try.prog (W.alloc (.cells #[.int .u8 c] 5)) = .ok (.slice a' n' c') w2 ∧ OwnBs w2 base (.slice a' n' c') (l ++ [c]) ∧ Below base W w2 := by
  have hal : Below W.heap.size W (W.alloc (.cells #[.int .u8 c] 5)) := (Below.refl _ _).alloc (Nat.le_refl _) _
  have hx : IsBs (W.alloc (.cells #[.int .u8 c] 5)) (.slice (some ⟨W.heap.size, 0, none⟩) 1 1) [c] := isSl_lit byteC_len [c] #[.int .u8 c] 5 W.heap.size rfl rfl 1 rfl (by unfold maxLen; omega)
  have ho := own_below h hal
  obtain ⟨v', w2, hrun, h2, hg, -⟩ := app_bs _ base v _ l [c] ho hx (by simp; omega) (Nat.le_trans hb hal.size)
  obtain ⟨n', hn'⟩ : ∃ n', n' = (l ++ [c]).length := ⟨_, rfl⟩
  have h2' := h2
  rw [← hn'] at h2'
  obtain ⟨a', c', rfl⟩ := own_slice h2'
  exact ⟨a', n', c', w2, hrun, h2, (hal.mono hb).trans ((Below.refl base _).grown hg (Nat.le_trans hb hal.size) (fun g e => (ho.lt g e).1))⟩
set_option maxHeartbeats 1600000 in
theorem rnum_any (n : Nat) (w : World) (hn : n < 9223372036854775808) :
    Calls Try.prog 57 #[.int .i64 n] w fun e w' => ∃ v', e = .returned v' ∧ OwnBs w' w.heap.size v' (encN n) ∧ Below w.heap.size w w' := by
  have h9 : Hid (n < 2 ^ (7 * 9)) := Lib.hid (show n < 2 ^ (7 * 9) from hn)
  go_enter Try.func57, Try.ntmps57
  go_wp2
  go_loopw [0, 3] (fun nv ov wr => ∃ (f m : Nat) (dn : List Nat), f ≤ 9 ∧ nv = .int .i64 m ∧ m < 2 ^ (7 * f) ∧ encN n = dn ++ encF f m ∧ dn.length + f = 9 ∧ OwnBs wr w.heap.size ov dn ∧ Below w.heap.size w wr) (fun nv _ _ => (intOf nv).toNat)
  case atStart => exact ⟨9, n, [], by omega, rfl, h9.out, rfl, rfl, World.ownsRow_nil _ _ _ _, Below.refl _ _⟩
  case round =>
    obtain ⟨wo, rfl⟩ : ∃ wo : World, wo = wr := ⟨_, rfl⟩
    obtain ⟨f, m, dn, hf, rfl, hm, henc, hdn, hown, hb⟩ := hrel
    have Henc := Lib.hid henc
    have Hm := Lib.hid hm
    have Hb := Lib.hid hb
    have Hown := Lib.hid hown
    obtain ⟨oa, oc, rfl⟩ := own_slice hown
    clear henc hm hb hown
    by_cases h127 : 127 < m
    · obtain ⟨y, hy⟩ : ∃ y : Nat, y = m % 128 + 128 := ⟨_, rfl⟩
      obtain ⟨q, hqm⟩ : ∃ q, q = m / 128 := ⟨_, rfl⟩
      have hy1 : (m : Int) % 128 + 128 = (y : Int) := by omega
      have hq : (m : Int) / 128 = (q : Int) := by omega
      obtain ⟨f2, rfl⟩ : ∃ f2, f = f2 + 1 := by
        rcases Nat.eq_zero_or_pos f with z | z
        · exfalso
          have := Hm.out
          rw [z] at this
          simp at this
          omega
        · exact ⟨f - 1, by omega⟩
      have henc2 : encN n = (dn ++ [y]) ++ encF f2 q := by
        rw [Henc.out, List.append_assoc]
        congr 1
        show (if 127 < m then (m % 128 + 128) :: encF f2 (m / 128) else [m]) = _
        rw [if_pos h127, ← hy, ← hqm]; rfl
      have hm2 : q < 2 ^ (7 * f2) := by
        have h1 := Hm.out
        have e : 2 ^ (7 * (f2 + 1)) = 2 ^ (7 * f2) * 128 := by rw [Nat.mul_add, Nat.mul_one, Nat.pow_add]
        rw [e] at h1
        rw [hqm]
        exact Nat.div_lt_of_lt_mul (by rw [Nat.mul_comm]; exact h1)
      have hqlt : q < m := by omega
      obtain ⟨a', n', c', w2, hrun, hown2, hb2⟩ := push_bs wo w.heap.size _ dn y Hown.out (by omega) Hb.out.size
      have Hown2 := Lib.hid hown2
      have Hb2 := Lib.hid (Hb.out.trans hb2)
      have Henc2 := Lib.hid henc2
      have Hm2 := Lib.hid hm2
      have Hrl : Hid ((dn ++ [y]).length + f2 = 9) := Lib.hid (by rw [List.length_append]; simp; omega)
      have hq56 : q < 2 ^ 56 := Nat.lt_of_lt_of_le hm2 (Nat.pow_le_pow_right (by omega) (by omega))
      have hqw : IntKind.i64.wrap (q : Int) = (q : Int) := IntWalk.i64_in _ (by omega)
      generalize dn.length = dl at *
      clear hown2 hb2 henc2 hm2 hy hqm hdn hq56
      go_wp2_with (at_builtin; first | (refine wpList_val rfl _ _ (run_append_op (.tmp 6) (.tmp 11) 95 95 rfl rfl rfl hrun) ?_) | (refine wpList_val rfl _ _ (run_append_op (.tmp 6) (.tmp 11) 95 95 rfl (by simp) (by simp) hrun) ?_))
      go_roundw
      case rel => exact ⟨f2, q, dn ++ [y], by omega, rfl, Hm2.out, Henc2.out, Hrl.out, Hown2.out, Hb2.out⟩
      case measure => simp [intOf]; omega
    · have hm127 : ¬ (127 : Int) < (m : Int) := by omega
      have hmm : (m : Int) % 256 = (m : Int) := by omega
      have henc2 : encN n = dn ++ [m] := by
        rw [Henc.out]
        congr 1
        cases f with
        | zero => rfl
        | succ f2 =>
          show (if 127 < m then (m % 128 + 128) :: encF f2 (m / 128) else [m]) = _
          rw [if_neg h127]
      obtain ⟨a', n', c', w2, hrun, hown2, hb2⟩ := push_bs wo w.heap.size _ dn m Hown.out (by omega) Hb.out.size
      have Hown2 := Lib.hid hown2
      have Hb2 := Lib.hid (Hb.out.trans hb2)
      have Henc2 := Lib.hid henc2
      generalize dn.length = dl at *
      clear hown2 hb2 henc2
      go_wp2_with (at_builtin; first | (refine wpList_val rfl _ _ (run_append_op (.tmp 15) (.tmp 18) 95 95 rfl rfl rfl hrun) ?_) | (refine wpList_val rfl _ _ (run_append_op (.tmp 15) (.tmp 18) 95 95 rfl (by simp) (by simp) hrun) ?_))
      go_ret
      exact ⟨_, rfl, by rw [Henc2.out]; exact Hown2.out, Hb2.out⟩
set_option maxHeartbeats 1600000 in
theorem rtext_any (vx : Value) (m : List Nat) (w : World) (hx : IsBs w vx m) (hm : m.length ≤ 1000000) :
    Calls Try.prog 54 #[vx] w fun e w' => ∃ v', e = .returned v' ∧ OwnBs w' w.heap.size v' (encN m.length ++ m) ∧ Below w.heap.size w w' := by
  obtain ⟨a, c, rfl, -, -, -⟩ := id hx
  have Hx := Lib.hid hx
  obtain ⟨n, hn⟩ : ∃ n, n = m.length := ⟨_, rfl⟩
  rw [← hn] at Hx hm ⊢
  have Hn := Lib.hid hn
  have Hnum := Lib.hid (rnum_any n w (by omega))
  clear hx hn
  go_enter Try.func54, Try.ntmps54
  go_wp2_with fail
  refine Hnum.out.mono ?_
  rintro e w2 ⟨v2, rfl, hown, hb2⟩
  have hel := encN_le n
  obtain ⟨v3, w3, hrun, hown3, hg3, -⟩ := app_bs w2 w.heap.size v2 (.slice a n c) (encN n) m hown (Hx.out.below hb2) (by rw [← Hn.out]; omega) hb2.size
  have Hb3 := Lib.hid (hb2.trans ((Below.refl _ _).grown hg3 hb2.size (fun g e => (hown.lt g e).1)))
  have Hown3 := Lib.hid hown3
  obtain ⟨n2, hn2⟩ : ∃ n2, n2 = (encN n).length := ⟨_, rfl⟩
  rw [OwnBs, ← hn2] at hown
  obtain ⟨a2, c2, rfl⟩ := own_slice hown
  obtain ⟨n3, hn3⟩ : ∃ n3, n3 = (encN n ++ m).length := ⟨_, rfl⟩
  have h3' := hown3
  rw [← hn3] at h3'
  obtain ⟨a3, c3, rfl⟩ := own_slice h3'
  clear hown hown3 hb2 hg3 hn2 hn3 h3' hel Hnum
  go_wp2_with (at_builtin; first | (refine wpList_val rfl _ _ (run_append_op (.tmp 5) (.tmp 6) 95 95 rfl rfl rfl hrun) ?_) | (refine wpList_val rfl _ _ (run_append_op (.tmp 5) (.tmp 6) 95 95 rfl (by simp) (by simp) hrun) ?_))
  go_ret
  exact ⟨_, rfl, Hown3.out, Hb3.out⟩
end Go.Proofs.Ytbnodgoccmhjkaa.Tithe
