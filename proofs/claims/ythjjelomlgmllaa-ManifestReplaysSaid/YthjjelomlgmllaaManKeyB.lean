/- A key's bytes, the program's and the document's: walked (printed by mkmankeyb.py). -/
import Derived.Test.YthjjelomlgmllaaManKey
import Derived.Lib.ConvBytes
namespace Go.Proofs.Ythjjelomlgmllaa.Tithe
open Go.RowKit Go.Sort Go.Shelf
set_option linter.unusedVariables false
set_option linter.unusedSimpArgs false
set_option maxRecDepth 100000
theorem conv_str (s : ByteArray) (W : World) (hs : s.size ≤ 1000000) : ∃ (c : Nat) (W' : World), (convert 9 34 (.string s)).run Try.prog W = .ok (.slice (some ⟨W.heap.size, 0, none⟩) s.size c) W' ∧ IsBs W' (.slice (some ⟨W.heap.size, 0, none⟩) s.size c) (bytesOf s) ∧ Below W.heap.size W W' ∧ W.heap.size < W'.heap.size ∧ (∀ wb, wb < W.heap.size → FarW W W' wb) := by
  refine ⟨_, _, Lib.run_convert_string_bytes W 9 34 5 s Try.underlying9 Try.underlying34 Try.underlying5, ?_, ?_, ?_, ?_⟩
  · refine ⟨_, _, by rw [bytesOf_len], by rw [bytesOf_len]; exact grownCap_ge _ _ _ _, grownCap_le_maxLen _ _ _ _ (by unfold maxLen; omega), fun _ => ⟨_, _, rfl, fun i x hi j y hj => ?_⟩⟩
    have hlt := (List.getElem?_eq_some_iff.1 hi).1
    rw [bytesOf_len] at hlt
    have hc := Lib.bytesWorld_cell W 5 s i hlt
    obtain rfl : j = 0 := by
      rcases Nat.eq_zero_or_pos j with q | q
      · exact q
      · rw [List.getElem?_eq_none (by rw [byteC_len]; omega)] at hj; cases hj
    injection hj with hj
    rw [Nat.zero_add, Nat.mul_one, Nat.add_zero, hc, ← hj]
    unfold bytesOf at hi
    rw [List.getElem?_map] at hi
    cases hq : s.data.toList[i]? with
    | none => rw [hq] at hi; cases hi
    | some z =>
      rw [hq] at hi
      injection hi with hi
      rw [List.getD_eq_getElem?_getD, hq, ← hi]; rfl
  · exact ⟨rfl, rfl, rfl, by rw [Lib.bytesWorld_size]; omega, fun k hk => Lib.bytesWorld_at_old W _ s k hk⟩
  · rw [Lib.bytesWorld_size]; omega
  · intro wb hwb t x hx hne hno
    exact ⟨(Lib.bytesWorld_at_old W _ s t (blk_lt hx)).trans hx, fun v b hv => hno v b ((Lib.bytesWorld_at_old W _ s wb hwb).symm.trans hv)⟩
/-- the user's bytes as they stand in a key -/
def esc : List Nat → List Nat
  | [] => []
  | x :: t => if x = 0 then 0 :: 255 :: esc t else x :: esc t
theorem esc_z (t : List Nat) : esc (0 :: t) = 0 :: 255 :: esc t := by rw [esc]; rfl
theorem esc_n {x : Nat} (t : List Nat) (h : x ≠ 0) : esc (x :: t) = x :: esc t := by rw [esc, if_neg h]
theorem esc_len : ∀ l : List Nat, (esc l).length ≤ 2 * l.length
  | [] => by simp [esc]
  | x :: t => by
    have := esc_len t
    by_cases h : x = 0
    · subst h; rw [esc_z]; simp; omega
    · rw [esc_n t h]; simp; omega
/-- the last n bytes of a number, the highest first -/
def bytN : Nat → Nat → List Nat
  | 0, _ => []
  | n + 1, a => (a / 256 ^ n % 256) :: bytN n a
/-- and the lowest first -/
def lowN : Nat → Nat → List Nat
  | 0, _ => []
  | n + 1, a => lowN n a ++ [a / 256 ^ n % 256]
theorem lowN_len : ∀ n a, (lowN n a).length = n
  | 0, _ => rfl
  | n + 1, a => by rw [lowN, List.length_append, lowN_len n a]; rfl
theorem lowN_at : ∀ n a j, j < n → (lowN n a)[j]? = some (a / 256 ^ j % 256)
  | n + 1, a, j, h => by
    rw [lowN]
    by_cases q : j < n
    · rw [List.getElem?_append_left (by rw [lowN_len]; exact q)]
      exact lowN_at n a j q
    · obtain rfl : j = n := by omega
      rw [List.getElem?_append_right (by rw [lowN_len]; exact Nat.le_refl _), lowN_len, Nat.sub_self]; rfl
theorem bytN_len : ∀ n a, (bytN n a).length = n
  | 0, _ => rfl
  | n + 1, a => by rw [bytN, List.length_cons, bytN_len n a]
/-- a key's bytes -/
def encK (k : Ky) : List Nat := esc (bytesOf k.u) ++ [0, 1] ++ bytN 6 (1099511627776 - k.s).toNat ++ [(255 - k.k).toNat]
theorem encK_len (k : Ky) : (encK k).length ≤ 2 * k.u.size + 9 := by
  unfold encK
  have := esc_len (bytesOf k.u)
  rw [bytesOf_len] at this
  simp only [List.length_append, bytN_len, List.length_cons, List.length_nil]
  omega
theorem drop_at {bs : List Nat} {i : Nat} (h : i < bs.length) : ∃ x, bs[i]? = some x ∧ bs.drop i = x :: bs.drop (i + 1) := by
  refine ⟨_, List.getElem?_eq_getElem h, ?_⟩
  rw [← List.drop_eq_getElem_cons h]
attribute [local go_sem] Oper.semAt_some
theorem push2_bs (W : World) (base : Nat) (v : Value) (l : List Nat) (c d : Nat) (h : OwnBs W base v l) (hl : l.length ≤ 1000000) (hb : base ≤ W.heap.size) :
    ∃ (a' : Option Addr) (n' c' : Nat) (w2 : World), (Builtin.append_ #[34, 34] 34 #[v, .slice (some ⟨W.heap.size, 0, none⟩) 2 2]).run Try.prog (W.alloc (.cells #[.int .u8 c, .int .u8 d] 5)) = .ok (.slice a' n' c') w2 ∧ OwnBs w2 base (.slice a' n' c') (l ++ [c, d]) ∧ Below base W w2 := by
  have hal : Below W.heap.size W (W.alloc (.cells #[.int .u8 c, .int .u8 d] 5)) := (Below.refl _ _).alloc (Nat.le_refl _) _
  have hx : IsBs (W.alloc (.cells #[.int .u8 c, .int .u8 d] 5)) (.slice (some ⟨W.heap.size, 0, none⟩) 2 2) [c, d] := isSl_lit byteC_len [c, d] #[.int .u8 c, .int .u8 d] 5 W.heap.size rfl rfl 2 rfl (by unfold maxLen; omega)
  have ho := own_below h hal
  obtain ⟨v', w2, hrun, h2, hg, -⟩ := app_bs _ base v _ l [c, d] ho hx (by simp; omega) (Nat.le_trans hb hal.size)
  obtain ⟨n', hn'⟩ : ∃ n', n' = (l ++ [c, d]).length := ⟨_, rfl⟩
  have h2' := h2
  rw [← hn'] at h2'
  obtain ⟨a', c', rfl⟩ := own_slice h2'
  exact ⟨a', n', c', w2, hrun, h2, (hal.mono hb).trans ((Below.refl base _).grown hg (Nat.le_trans hb hal.size) (fun g e => (ho.lt g e).1))⟩
theorem push_far (W : World) (base : Nat) (v : Value) (l : List Nat) (c : Nat) (h : OwnBs W base v l) (hl : l.length ≤ 1000000) (hb : base ≤ W.heap.size) :
    ∃ (a' : Option Addr) (n' c' : Nat) (w2 : World), (Builtin.append_ #[34, 34] 34 #[v, .slice (some ⟨W.heap.size, 0, none⟩) 1 1]).run Try.prog (W.alloc (.cells #[.int .u8 c] 5)) = .ok (.slice a' n' c') w2 ∧ OwnBs w2 base (.slice a' n' c') (l ++ [c]) ∧ Below base W w2 ∧ (∀ s o, W.heap[s]? = some o → v.ownBlock ≠ some s → w2.heap[s]? = some o ∧ (Value.slice a' n' c').ownBlock ≠ some s) := by
  have hal : Below W.heap.size W (W.alloc (.cells #[.int .u8 c] 5)) := (Below.refl _ _).alloc (Nat.le_refl _) _
  have hx : IsBs (W.alloc (.cells #[.int .u8 c] 5)) (.slice (some ⟨W.heap.size, 0, none⟩) 1 1) [c] := isSl_lit byteC_len [c] #[.int .u8 c] 5 W.heap.size rfl rfl 1 rfl (by unfold maxLen; omega)
  have ho := own_below h hal
  obtain ⟨v', w2, hrun, h2, hg, hno⟩ := app_bs _ base v _ l [c] ho hx (by simp; omega) (Nat.le_trans hb hal.size)
  obtain ⟨n', hn'⟩ : ∃ n', n' = (l ++ [c]).length := ⟨_, rfl⟩
  have h2' := h2
  rw [← hn'] at h2'
  obtain ⟨a', c', rfl⟩ := own_slice h2'
  exact ⟨a', n', c', w2, hrun, h2, (hal.mono hb).trans ((Below.refl base _).grown hg (Nat.le_trans hb hal.size) (fun g e => (ho.lt g e).1)), fun s o hs hne => ⟨(hg.block s (Nat.lt_of_lt_of_le (blk_lt hs) hal.size) (fun e => hne e.symm)).trans ((hal.block s (blk_lt hs)).trans hs), hno s (Nat.lt_of_lt_of_le (blk_lt hs) hal.size) hne⟩⟩
theorem flat_at (l : List Nat) (j : Nat) (hj : j < l.length) : (flat byteC l)[j]? = (l[j]?).map fun x => .int .u8 (x : Nat) := by
  induction l generalizing j with
  | nil => simp at hj
  | cons x t ih =>
    cases j with
    | zero => rfl
    | succ j => exact ih j (by simpa using hj)
set_option maxHeartbeats 6400000 in
theorem kbytes_any (k : Ky) (hk : okK k = true) (w : World) :
    Calls Try.prog 64 #[k.v] w fun e w' => ∃ v, e = .returned (.tuple #[v, .int .i64 0]) ∧ OwnBs w' w.heap.size v (encK k) ∧ Below w.heap.size w w' := by
  obtain ⟨u, s, kd⟩ := k
  have hck := kcheck_any ⟨u, s, kd⟩
  have h0 : chkK ⟨u, s, kd⟩ = 0 := by unfold chkK; rw [if_pos hk]
  rw [h0] at hck
  simp only [okK, Bool.and_eq_true, decide_eq_true_eq] at hk
  obtain ⟨⟨⟨⟨⟨h1, h2⟩, h3⟩, h4⟩, h5⟩, h6⟩ := hk
  unfold Ky.v at hck ⊢
  have Hck := Lib.hid hck
  obtain ⟨A, hA⟩ : ∃ A : Nat, A = (1099511627776 - s).toNat := ⟨_, rfl⟩
  have hAs : (1099511627776 : Int) - s = (A : Int) := by omega
  have hA48 : A ≤ 1099511627776 := by omega
  obtain ⟨z, hz⟩ : ∃ z : Nat, z = (255 - kd).toNat := ⟨_, rfl⟩
  have henc : encK ⟨u, s, kd⟩ = esc (bytesOf u) ++ [0, 1] ++ bytN 6 A ++ [z] := by unfold encK; rw [hA, hz]
  generalize encK ⟨u, s, kd⟩ = E at henc ⊢
  have hw1 : IntKind.i64.wrap (1099511627776 - s) = (A : Int) := by rw [hAs]; exact IntWalk.i64_in _ (by omega)
  have Hkd : Hid ((kd = 1 ∧ z = 254) ∨ (kd = 2 ∧ z = 253) ∨ (kd = 3 ∧ z = 252)) := Lib.hid (by omega)
  obtain ⟨bs, hbs⟩ : ∃ bs, bs = bytesOf u := ⟨_, rfl⟩
  have hbl : bs.length = u.size := by rw [hbs]; exact bytesOf_len u
  have hlt : ∀ x ∈ bs, x < 256 := by rw [hbs]; exact bytesOf_lt u
  have hesc := esc_len bs
  have hal : Below w.heap.size w (w.alloc (.cells #[.string u, .int .i64 s, .int .i64 kd] 75)) := (Below.refl _ _).alloc (Nat.le_refl _) _
  have HK := Lib.hid (blk_of_alloc w (.cells #[.string u, .int .i64 s, .int .i64 kd] 75))
  have Hal := Lib.hid hal
  have Hesc := Lib.hid hesc
  have Hln : Hid (bs.length ≤ 64) := Lib.hid (by omega)
  have Hlt := Lib.hid hlt
  have Hbs := Lib.hid hbs
  rw [← hbs] at henc
  have HE := Lib.hid henc
  obtain ⟨usz, husz⟩ : ∃ q, q = u.size := ⟨_, rfl⟩
  have Hus := Lib.hid husz
  have husz64 : usz ≤ 64 := by omega
  clear hck h0 h1 h2 h3 h4 h5 h6 hA henc hbs hbl hlt hesc hal hz husz
  go_enter Try.func64, Try.ntmps64
  obtain ⟨kb, hkb⟩ : ∃ q, q = w.heap.size := ⟨_, rfl⟩
  have Hkb := Lib.hid hkb
  go_upto_region 1 with fail
  rw [← hkb] at HK Hal
  rw [← hkb]
  generalize w.alloc (.cells #[.string u, .int .i64 s, .int .i64 kd] 75) = W at *
  have hk0 : W.cell? ⟨kb, 0, none⟩ = some (.string u) := by rw [cell_blkR HK.out]; rfl
  have hk1 : W.cell? ⟨kb, 1, none⟩ = some (.int .i64 s) := by rw [cell_blkR HK.out]; rfl
  have hk2 : W.cell? ⟨kb, 2, none⟩ = some (.int .i64 kd) := by rw [cell_blkR HK.out]; rfl
  clear hkb
  go_wp2_with fail
  refine (Hck.out _).mono ?_
  rintro e W1 ⟨rfl, hb1⟩
  have HK1 := Lib.hid ((hb1.block _ (blk_lt HK.out)).trans HK.out)
  have hk0' : W1.cell? ⟨kb, 0, none⟩ = some (.string u) := by rw [cell_blkR HK1.out]; rfl
  obtain ⟨cc, W2, hcv, hbs2, hb2, -, -⟩ := conv_str u W1 (by rw [← Hus.out]; omega)
  rw [← Hus.out] at hcv hbs2
  have Hb2 := Lib.hid (hb1.trans (hb2.mono hb1.size))
  have HK2 := Lib.hid ((hb2.block _ (blk_lt HK1.out)).trans HK1.out)
  rw [← Hbs.out] at hbs2
  have Hbs2 := Lib.hid hbs2
  have Hnl : Hid (usz = bs.length) := Lib.hid (by have := Hbs.out; rw [Hus.out, this, bytesOf_len])
  have Hcx : Hid (∀ X : World, Below W2.heap.size W2 X → ∀ (i x : Nat), bs[i]? = some x → X.cell? ⟨W1.heap.size, i, none⟩ = some (.int .u8 x)) := Lib.hid (fun X hX i x hx => by
    have hil := (List.getElem?_eq_some_iff.1 hx).1
    obtain ⟨-, -, -, hxx⟩ := Hbs2.out.at
    obtain ⟨be, off, he, hcell⟩ := hxx (by have := Hnl.out; omega)
    injection he with he
    injection he with he1 he2
    subst he1 he2
    have := hcell i x hx 0 _ rfl
    rw [Nat.mul_one, Nat.add_zero, Nat.zero_add] at this
    exact (hX.cell (block_lt_of_cell this)).trans this)
  clear hb1 hb2 hbs2 hk0 hk1 hk2 HK HK1
  go_wp2_with fail
  go_loopw [5, 19] (fun ov iv wr => ∃ (i : Nat) (out : List Nat), i ≤ usz ∧ iv = .int .i64 i ∧ out.length ≤ 2 * i ∧ esc bs = out ++ esc (bs.drop i) ∧ OwnBs wr W2.heap.size ov out ∧ Below W2.heap.size W2 wr) (fun _ iv _ => usz - (intOf iv).toNat)
  case atStart => exact ⟨0, [], Nat.zero_le _, rfl, Nat.le_refl _, rfl, World.ownsRow_nil _ _ _ _, Below.refl _ _⟩
  case round =>
    obtain ⟨wo, rfl⟩ : ∃ wo : World, wo = wr := ⟨_, rfl⟩
    obtain ⟨i, out, hi, rfl, hol, hesc, hown, hb⟩ := hrel
    have Hown := Lib.hid hown
    have Hb := Lib.hid hb
    have Hol := Lib.hid hol
    have Hesc2 := Lib.hid hesc
    obtain ⟨oa, oc, rfl⟩ := own_slice hown
    obtain ⟨on, hon⟩ : ∃ q, q = out.length := ⟨_, rfl⟩
    have Hon := Lib.hid hon
    rw [← hon]
    clear hown hb hol hesc hon
    by_cases hiu : i < usz
    · obtain ⟨x, hxi, hdr⟩ := drop_at (bs := bs) (i := i) (by rw [← Hnl.out]; exact hiu)
      have d0 := Hcx.out wo Hb.out i x hxi
      have Hdr := Lib.hid hdr
      have hx256 := Hlt.out x (List.mem_of_getElem? hxi)
      clear hxi hdr
      obtain ⟨a1, n1, c1, w1, hrun1, ho1, hbb1⟩ := push_bs wo W2.heap.size _ out x Hown.out (by have := Hol.out; omega) Hb.out.size
      rw [← Hon.out] at hrun1
      have Own1 := Lib.hid ho1
      have Bel1 := Lib.hid (Hb.out.trans hbb1)
      clear ho1 hbb1
      by_cases hx0 : x = 0
      · subst hx0
        have Hres : Hid (esc bs = (out ++ [0] ++ [255]) ++ esc (bs.drop (i + 1))) := Lib.hid (by rw [Hesc2.out, Hdr.out, esc_z]; simp)
        obtain ⟨a2, n2, c2, w2, hrun2, ho2, hbb2⟩ := push_bs w1 W2.heap.size _ (out ++ [0]) 255 Own1.out (by have := Hol.out; simp only [List.length_append, List.length_singleton]; omega) Bel1.out.size
        have Own2 := Lib.hid ho2
        have Bel2 := Lib.hid (Bel1.out.trans hbb2)
        clear ho2 hbb2
        go_wp2_with (at_builtin; first | (refine wpList_val rfl _ _ (run_append_op (.tmp 23) (.tmp 25) 34 34 rfl rfl rfl hrun1) ?_) | (refine wpList_val rfl _ _ (run_append_op (.tmp 23) (.tmp 25) 34 34 rfl (by simp) (by simp) hrun1) ?_) | (refine wpList_val rfl _ _ (run_append_op (.tmp 29) (.tmp 30) 34 34 rfl rfl rfl hrun2) ?_) | (refine wpList_val rfl _ _ (run_append_op (.tmp 29) (.tmp 30) 34 34 rfl (by simp) (by simp) hrun2) ?_))
        go_roundw
        case rel => exact ⟨i + 1, out ++ [0] ++ [255], by omega, by go_num, by have := Hol.out; simp only [List.length_append, List.length_singleton]; omega, Hres.out, Own2.out, Bel2.out⟩
        case measure => simp [intOf]; omega
      · have Hres : Hid (esc bs = (out ++ [x]) ++ esc (bs.drop (i + 1))) := Lib.hid (by rw [Hesc2.out, Hdr.out, esc_n _ hx0]; simp)
        have g0 : ((x : Int) == 0) = false := beq_eq_false_iff_ne.2 (by omega)
        have g0' : ¬ (x : Int) = 0 := by omega
        go_wp2_with (at_builtin; first | (refine wpList_val rfl _ _ (run_append_op (.tmp 23) (.tmp 25) 34 34 rfl rfl rfl hrun1) ?_) | (refine wpList_val rfl _ _ (run_append_op (.tmp 23) (.tmp 25) 34 34 rfl (by simp) (by simp) hrun1) ?_) | (refine wpList_val rfl _ _ (run_append_op (.tmp 29) (.tmp 30) 34 34 rfl rfl rfl hrun2) ?_) | (refine wpList_val rfl _ _ (run_append_op (.tmp 29) (.tmp 30) 34 34 rfl (by simp) (by simp) hrun2) ?_))
        go_roundw
        case rel => exact ⟨i + 1, out ++ [x], by omega, by go_num, by have := Hol.out; simp only [List.length_append, List.length_singleton]; omega, Hres.out, Own1.out, Bel1.out⟩
        case measure => simp [intOf]; omega
    · obtain rfl : usz = i := by omega
      have hfin : esc bs = out := by rw [Hesc2.out, List.drop_of_length_le (by rw [← Hnl.out]; exact Nat.le_refl _), esc, List.append_nil]
      have HK3 := Lib.hid ((Hb.out.block _ (blk_lt HK2.out)).trans HK2.out)
      have hk1 : wo.cell? ⟨kb, 1, none⟩ = some (.int .i64 s) := by rw [cell_blkR HK3.out]; rfl
      obtain ⟨a1, n1, c1, w1, hrun1, ho1, hbb1⟩ := push2_bs wo W2.heap.size _ out 0 1 Hown.out (by have := Hol.out; omega) Hb.out.size
      rw [← Hon.out] at hrun1
      have Own1 := Lib.hid ho1
      have Bel1 := Lib.hid (Hb.out.trans hbb1)
      have HK4 := Lib.hid ((Bel1.out.block _ (blk_lt HK2.out)).trans HK2.out)
      have hk1' : w1.cell? ⟨kb, 1, none⟩ = some (.int .i64 s) := by rw [cell_blkR HK4.out]; rfl
      rw [← hfin] at Own1
      clear ho1 hbb1 HK3 hfin
      obtain ⟨pre, hpre⟩ : ∃ q, q = esc bs ++ [0, 1] := ⟨_, rfl⟩
      have Hpre := Lib.hid hpre
      have Hpl : Hid (pre.length ≤ 130) := Lib.hid (by rw [hpre]; have h1 := Hesc.out; have h2 := Hln.out; simp only [List.length_append, List.length_cons, List.length_nil]; omega)
      rw [← hpre] at Own1
      clear hpre Hcx Hown Hb hk1 Hesc2 Hol Hon
      go_wp2_with (at_builtin; first | (refine wpList_val rfl _ _ (run_append_op (.tmp 33) (.tmp 34) 34 34 rfl rfl rfl hrun1) ?_) | (refine wpList_val rfl _ _ (run_append_op (.tmp 33) (.tmp 34) 34 34 rfl (by simp) (by simp) hrun1) ?_))
      go_loopw [5, 9] (fun ov iv wr => ∃ (i : Nat) (out : List Nat), i ≤ 6 ∧ iv = .int .i64 (8 * (i : Int) - 8) ∧ out.length = pre.length + (6 - i) ∧ pre ++ bytN 6 A = out ++ bytN i A ∧ OwnBs wr W2.heap.size ov out ∧ Below W2.heap.size W2 wr) (fun _ iv _ => (intOf iv + 8).toNat)
      case atStart => exact ⟨6, pre, by omega, rfl, by omega, rfl, Own1.out, Bel1.out⟩
      case round =>
        clear Own1 Bel1 HK4 hk1' hrun1
        obtain ⟨wo2, rfl⟩ : ∃ wo2 : World, wo2 = wr := ⟨_, rfl⟩
        obtain ⟨i, out, hi6, rfl, hol, hby, hown, hb⟩ := hrel
        have Hown := Lib.hid hown
        have Hb := Lib.hid hb
        have Hol := Lib.hid hol
        have Hby := Lib.hid hby
        obtain ⟨oa, oc, rfl⟩ := own_slice hown
        obtain ⟨on, hon⟩ : ∃ q, q = out.length := ⟨_, rfl⟩
        have Hon := Lib.hid hon
        rw [← hon]
        have hol2 : out.length ≤ 136 := by have := Hpl.out; omega
        clear hown hb hol hby hon
        match i, hi6, Hol, Hby with
        | 6, hi6, Hol, Hby =>
          obtain ⟨y, hy⟩ : ∃ y : Nat, y = A / 256 ^ 5 % 256 := ⟨_, rfl⟩
          have e256 : (256 : Nat) ^ 5 = 1099511627776 := by decide
          have hy1 : (A : Int) / 1099511627776 = (y : Int) := by rw [hy, e256]; omega
          have Hres : Hid (pre ++ bytN 6 A = (out ++ [y]) ++ bytN 5 A) := Lib.hid (by rw [Hby.out, hy]; show out ++ (_ :: bytN 5 A) = _; simp)
          obtain ⟨a1, n1, c1, w1, hrun1, ho1, hbb1⟩ := push_bs wo2 W2.heap.size _ out y Hown.out (by omega) Hb.out.size
          rw [← Hon.out] at hrun1
          have Own1 := Lib.hid ho1
          have Bel1 := Lib.hid (Hb.out.trans hbb1)
          clear ho1 hbb1 hy
          go_wp2_with (at_builtin; first | (refine wpList_val rfl _ _ (run_append_op (.tmp 43) (.tmp 48) 34 34 rfl rfl rfl hrun1) ?_) | (refine wpList_val rfl _ _ (run_append_op (.tmp 43) (.tmp 48) 34 34 rfl (by simp) (by simp) hrun1) ?_))
          go_roundw
          case rel => exact ⟨5, out ++ [y], by omega, rfl, by have := Hol.out; simp only [List.length_append, List.length_singleton]; omega, Hres.out, Own1.out, Bel1.out⟩
          case measure => simp [intOf]
        | 5, hi6, Hol, Hby =>
          obtain ⟨y, hy⟩ : ∃ y : Nat, y = A / 256 ^ 4 % 256 := ⟨_, rfl⟩
          have e256 : (256 : Nat) ^ 4 = 4294967296 := by decide
          have hy1 : (A : Int) / 4294967296 % 256 = (y : Int) := by rw [hy, e256]; omega
          have Hres : Hid (pre ++ bytN 6 A = (out ++ [y]) ++ bytN 4 A) := Lib.hid (by rw [Hby.out, hy]; show out ++ (_ :: bytN 4 A) = _; simp)
          obtain ⟨a1, n1, c1, w1, hrun1, ho1, hbb1⟩ := push_bs wo2 W2.heap.size _ out y Hown.out (by omega) Hb.out.size
          rw [← Hon.out] at hrun1
          have Own1 := Lib.hid ho1
          have Bel1 := Lib.hid (Hb.out.trans hbb1)
          clear ho1 hbb1 hy
          go_wp2_with (at_builtin; first | (refine wpList_val rfl _ _ (run_append_op (.tmp 43) (.tmp 48) 34 34 rfl rfl rfl hrun1) ?_) | (refine wpList_val rfl _ _ (run_append_op (.tmp 43) (.tmp 48) 34 34 rfl (by simp) (by simp) hrun1) ?_))
          go_roundw
          case rel => exact ⟨4, out ++ [y], by omega, rfl, by have := Hol.out; simp only [List.length_append, List.length_singleton]; omega, Hres.out, Own1.out, Bel1.out⟩
          case measure => simp [intOf]
        | 4, hi6, Hol, Hby =>
          obtain ⟨y, hy⟩ : ∃ y : Nat, y = A / 256 ^ 3 % 256 := ⟨_, rfl⟩
          have e256 : (256 : Nat) ^ 3 = 16777216 := by decide
          have hy1 : (A : Int) / 16777216 % 256 = (y : Int) := by rw [hy, e256]; omega
          have Hres : Hid (pre ++ bytN 6 A = (out ++ [y]) ++ bytN 3 A) := Lib.hid (by rw [Hby.out, hy]; show out ++ (_ :: bytN 3 A) = _; simp)
          obtain ⟨a1, n1, c1, w1, hrun1, ho1, hbb1⟩ := push_bs wo2 W2.heap.size _ out y Hown.out (by omega) Hb.out.size
          rw [← Hon.out] at hrun1
          have Own1 := Lib.hid ho1
          have Bel1 := Lib.hid (Hb.out.trans hbb1)
          clear ho1 hbb1 hy
          go_wp2_with (at_builtin; first | (refine wpList_val rfl _ _ (run_append_op (.tmp 43) (.tmp 48) 34 34 rfl rfl rfl hrun1) ?_) | (refine wpList_val rfl _ _ (run_append_op (.tmp 43) (.tmp 48) 34 34 rfl (by simp) (by simp) hrun1) ?_))
          go_roundw
          case rel => exact ⟨3, out ++ [y], by omega, rfl, by have := Hol.out; simp only [List.length_append, List.length_singleton]; omega, Hres.out, Own1.out, Bel1.out⟩
          case measure => simp [intOf]
        | 3, hi6, Hol, Hby =>
          obtain ⟨y, hy⟩ : ∃ y : Nat, y = A / 256 ^ 2 % 256 := ⟨_, rfl⟩
          have e256 : (256 : Nat) ^ 2 = 65536 := by decide
          have hy1 : (A : Int) / 65536 % 256 = (y : Int) := by rw [hy, e256]; omega
          have Hres : Hid (pre ++ bytN 6 A = (out ++ [y]) ++ bytN 2 A) := Lib.hid (by rw [Hby.out, hy]; show out ++ (_ :: bytN 2 A) = _; simp)
          obtain ⟨a1, n1, c1, w1, hrun1, ho1, hbb1⟩ := push_bs wo2 W2.heap.size _ out y Hown.out (by omega) Hb.out.size
          rw [← Hon.out] at hrun1
          have Own1 := Lib.hid ho1
          have Bel1 := Lib.hid (Hb.out.trans hbb1)
          clear ho1 hbb1 hy
          go_wp2_with (at_builtin; first | (refine wpList_val rfl _ _ (run_append_op (.tmp 43) (.tmp 48) 34 34 rfl rfl rfl hrun1) ?_) | (refine wpList_val rfl _ _ (run_append_op (.tmp 43) (.tmp 48) 34 34 rfl (by simp) (by simp) hrun1) ?_))
          go_roundw
          case rel => exact ⟨2, out ++ [y], by omega, rfl, by have := Hol.out; simp only [List.length_append, List.length_singleton]; omega, Hres.out, Own1.out, Bel1.out⟩
          case measure => simp [intOf]
        | 2, hi6, Hol, Hby =>
          obtain ⟨y, hy⟩ : ∃ y : Nat, y = A / 256 ^ 1 % 256 := ⟨_, rfl⟩
          have e256 : (256 : Nat) ^ 1 = 256 := by decide
          have hy1 : (A : Int) / 256 % 256 = (y : Int) := by rw [hy, e256]; omega
          have Hres : Hid (pre ++ bytN 6 A = (out ++ [y]) ++ bytN 1 A) := Lib.hid (by rw [Hby.out, hy]; show out ++ (_ :: bytN 1 A) = _; simp)
          obtain ⟨a1, n1, c1, w1, hrun1, ho1, hbb1⟩ := push_bs wo2 W2.heap.size _ out y Hown.out (by omega) Hb.out.size
          rw [← Hon.out] at hrun1
          have Own1 := Lib.hid ho1
          have Bel1 := Lib.hid (Hb.out.trans hbb1)
          clear ho1 hbb1 hy
          go_wp2_with (at_builtin; first | (refine wpList_val rfl _ _ (run_append_op (.tmp 43) (.tmp 48) 34 34 rfl rfl rfl hrun1) ?_) | (refine wpList_val rfl _ _ (run_append_op (.tmp 43) (.tmp 48) 34 34 rfl (by simp) (by simp) hrun1) ?_))
          go_roundw
          case rel => exact ⟨1, out ++ [y], by omega, rfl, by have := Hol.out; simp only [List.length_append, List.length_singleton]; omega, Hres.out, Own1.out, Bel1.out⟩
          case measure => simp [intOf]
        | 1, hi6, Hol, Hby =>
          obtain ⟨y, hy⟩ : ∃ y : Nat, y = A / 256 ^ 0 % 256 := ⟨_, rfl⟩
          have e256 : (256 : Nat) ^ 0 = 1 := by decide
          have hy1 : (A : Int) % 256 = (y : Int) := by rw [hy, e256]; omega
          have Hres : Hid (pre ++ bytN 6 A = (out ++ [y]) ++ bytN 0 A) := Lib.hid (by rw [Hby.out, hy]; show out ++ (_ :: bytN 0 A) = _; simp)
          obtain ⟨a1, n1, c1, w1, hrun1, ho1, hbb1⟩ := push_bs wo2 W2.heap.size _ out y Hown.out (by omega) Hb.out.size
          rw [← Hon.out] at hrun1
          have Own1 := Lib.hid ho1
          have Bel1 := Lib.hid (Hb.out.trans hbb1)
          clear ho1 hbb1 hy
          go_wp2_with (at_builtin; first | (refine wpList_val rfl _ _ (run_append_op (.tmp 43) (.tmp 48) 34 34 rfl rfl rfl hrun1) ?_) | (refine wpList_val rfl _ _ (run_append_op (.tmp 43) (.tmp 48) 34 34 rfl (by simp) (by simp) hrun1) ?_))
          go_roundw
          case rel => exact ⟨0, out ++ [y], by omega, rfl, by have := Hol.out; simp only [List.length_append, List.length_singleton]; omega, Hres.out, Own1.out, Bel1.out⟩
          case measure => simp [intOf]
        | 0, hi6, Hol, Hby =>
          have hfin : out = pre ++ bytN 6 A := by rw [Hby.out, bytN, List.append_nil]
          have HK3 := Lib.hid ((Hb.out.block _ (blk_lt HK2.out)).trans HK2.out)
          have hk2 : wo2.cell? ⟨kb, 2, none⟩ = some (.int .i64 kd) := by rw [cell_blkR HK3.out]; rfl
          have hle : w.heap.size ≤ W2.heap.size := by have h1 := Hal.out.size; have h2 := Hb2.out.size; omega
          have hkw : kb ≤ W.heap.size := by have h1 := Hal.out.size; have h3 := Hkb.out; omega
          have hkd3 := Hkd.out
          clear HK3
          rcases hkd3 with ⟨rfl, rfl⟩ | ⟨rfl, rfl⟩ | ⟨rfl, rfl⟩
          all_goals
            obtain ⟨a1, n1, c1, w1, hrun1, ho1, hbb1⟩ := push_bs wo2 W2.heap.size _ out _ Hown.out (by omega) Hb.out.size
            rw [← Hon.out] at hrun1
            rw [hfin, Hpre.out, ← HE.out] at ho1
            have Own1 := Lib.hid ho1
            have HB1 := Lib.hid (Hal.out.trans ((Hb2.out.trans ((Hb.out.trans hbb1).mono Hb2.out.size)).mono hkw))
            clear ho1 hbb1
            go_wp2_with (at_builtin; first | (refine wpList_val rfl _ _ (run_append_op (.tmp 50) (.tmp 55) 34 34 rfl rfl rfl hrun1) ?_) | (refine wpList_val rfl _ _ (run_append_op (.tmp 50) (.tmp 55) 34 34 rfl (by simp) (by simp) hrun1) ?_))
            go_ret2
            exact ⟨_, rfl, own_mono Own1.out hle, by have := HB1.out; rw [Hkb.out] at this; exact this⟩
set_option maxHeartbeats 6400000 in
theorem kref_any (k : Ky) (hk : okK k = true) (w : World) :
    Calls Try.prog 40 #[k.v] w fun e w' => ∃ v, e = .returned v ∧ OwnBs w' w.heap.size v (encK k) ∧ Below w.heap.size w w' := by
  obtain ⟨u, s, kd⟩ := k
  simp only [okK, Bool.and_eq_true, decide_eq_true_eq] at hk
  obtain ⟨⟨⟨⟨⟨h1, h2⟩, h3⟩, h4⟩, h5⟩, h6⟩ := hk
  unfold Ky.v
  obtain ⟨A, hA⟩ : ∃ A : Nat, A = (1099511627776 - s).toNat := ⟨_, rfl⟩
  have hAs : (1099511627776 : Int) - s = (A : Int) := by omega
  have hA48 : A ≤ 1099511627776 := by omega
  obtain ⟨z, hz⟩ : ∃ z : Nat, z = (255 - kd).toNat := ⟨_, rfl⟩
  have henc : encK ⟨u, s, kd⟩ = esc (bytesOf u) ++ [0, 1] ++ bytN 6 A ++ [z] := by unfold encK; rw [hA, hz]
  generalize encK ⟨u, s, kd⟩ = E at henc ⊢
  have hw1 : IntKind.i64.wrap (1099511627776 - s) = (A : Int) := by rw [hAs]; exact IntWalk.i64_in _ (by omega)
  have Hkd : Hid ((kd = 1 ∧ z = 254) ∨ (kd = 2 ∧ z = 253) ∨ (kd = 3 ∧ z = 252)) := Lib.hid (by omega)
  obtain ⟨bs, hbs⟩ : ∃ bs, bs = bytesOf u := ⟨_, rfl⟩
  have hbl : bs.length = u.size := by rw [hbs]; exact bytesOf_len u
  have hlt : ∀ x ∈ bs, x < 256 := by rw [hbs]; exact bytesOf_lt u
  have hesc := esc_len bs
  have Hix : Hid (∀ (i : Nat) (h : i < u.size), ∃ x : Nat, u[i].toNat = x ∧ bs[i]? = some x) := Lib.hid (fun i h => ⟨_, rfl, by rw [hbs]; unfold bytesOf; rw [List.getElem?_map, List.getElem?_eq_getElem (by rw [ba_len]; exact h), ba_get h]; rfl⟩)
  have hal : Below w.heap.size w (w.alloc (.cells #[.string u, .int .i64 s, .int .i64 kd] 81)) := (Below.refl _ _).alloc (Nat.le_refl _) _
  have HK := Lib.hid (blk_of_alloc w (.cells #[.string u, .int .i64 s, .int .i64 kd] 81))
  have Hal := Lib.hid hal
  have Hesc := Lib.hid hesc
  have Hln : Hid (bs.length ≤ 64) := Lib.hid (by omega)
  have Hlt := Lib.hid hlt
  have Hbs := Lib.hid hbs
  rw [← hbs] at henc
  have HE := Lib.hid henc
  have Hnl : Hid (u.size = bs.length) := Lib.hid hbl.symm
  have hus64 : u.size ≤ 64 := by omega
  clear h1 h2 h3 h4 h5 h6 hA henc hbs hbl hlt hesc hal hz
  go_enter Try.func40, Try.ntmps40
  obtain ⟨kb, hkb⟩ : ∃ q, q = w.heap.size := ⟨_, rfl⟩
  have Hkb := Lib.hid hkb
  go_wp2_with fail
  rw [← hkb] at HK Hal
  rw [← hkb]
  generalize w.alloc (.cells #[.string u, .int .i64 s, .int .i64 kd] 81) = W at *
  clear hkb
  go_loopw [3, 4] (fun ov iv wr => ∃ (i : Nat) (out : List Nat), i ≤ u.size ∧ iv = .int .i64 i ∧ out.length ≤ 2 * i ∧ esc bs = out ++ esc (bs.drop i) ∧ OwnBs wr W.heap.size ov out ∧ Below W.heap.size W wr) (fun _ iv _ => u.size - (intOf iv).toNat)
  case atStart => exact ⟨0, [], Nat.zero_le _, rfl, Nat.le_refl _, rfl, World.ownsRow_nil _ _ _ _, Below.refl _ _⟩
  case round =>
    obtain ⟨wo, rfl⟩ : ∃ wo : World, wo = wr := ⟨_, rfl⟩
    obtain ⟨i, out, hi, rfl, hol, hesc, hown, hb⟩ := hrel
    have Hown := Lib.hid hown
    have Hb := Lib.hid hb
    have Hol := Lib.hid hol
    have Hesc2 := Lib.hid hesc
    obtain ⟨oa, oc, rfl⟩ := own_slice hown
    obtain ⟨on, hon⟩ : ∃ q, q = out.length := ⟨_, rfl⟩
    have Hon := Lib.hid hon
    rw [← hon]
    have HK3 := Lib.hid ((hb.block _ (blk_lt HK.out)).trans HK.out)
    have hk0 : wo.cell? ⟨kb, 0, none⟩ = some (.string u) := by rw [cell_blkR HK3.out]; rfl
    clear hown hb hol hesc hon
    by_cases hiu : i < u.size
    · obtain ⟨x, hxu, hxi⟩ := Hix.out i hiu
      obtain ⟨x', hxi', hdr⟩ := drop_at (bs := bs) (i := i) (by rw [← Hnl.out]; exact hiu)
      obtain rfl : x = x' := by rw [hxi] at hxi'; injection hxi'
      have hlt2 : (i : Int) < (u.size : Int) := by omega
      have Hdr := Lib.hid hdr
      have hx256 := Hlt.out x (List.mem_of_getElem? hxi)
      clear hxi hxi' hdr
      obtain ⟨a1, n1, c1, w1, hrun1, ho1, hbb1⟩ := push_bs wo W.heap.size _ out x Hown.out (by have := Hol.out; omega) Hb.out.size
      rw [← Hon.out] at hrun1
      have Own1 := Lib.hid ho1
      have Bel1 := Lib.hid (Hb.out.trans hbb1)
      have HK4 := Lib.hid ((Bel1.out.block _ (blk_lt HK.out)).trans HK.out)
      have hk0' : w1.cell? ⟨kb, 0, none⟩ = some (.string u) := by rw [cell_blkR HK4.out]; rfl
      clear ho1 hbb1
      by_cases hx0 : x = 0
      · subst hx0
        have Hres : Hid (esc bs = (out ++ [0] ++ [255]) ++ esc (bs.drop (i + 1))) := Lib.hid (by rw [Hesc2.out, Hdr.out, esc_z]; simp)
        obtain ⟨a2, n2, c2, w2, hrun2, ho2, hbb2⟩ := push_bs w1 W.heap.size _ (out ++ [0]) 255 Own1.out (by have := Hol.out; simp only [List.length_append, List.length_singleton]; omega) Bel1.out.size
        have Own2 := Lib.hid ho2
        have Bel2 := Lib.hid (Bel1.out.trans hbb2)
        clear ho2 hbb2
        go_wp2_with (at_builtin; first | (refine wpList_val rfl _ _ (run_append_op (.tmp 16) (.tmp 21) 34 34 rfl rfl rfl hrun1) ?_) | (refine wpList_val rfl _ _ (run_append_op (.tmp 16) (.tmp 21) 34 34 rfl (by simp) (by simp) hrun1) ?_) | (refine wpList_val rfl _ _ (run_append_op (.tmp 28) (.tmp 29) 34 34 rfl rfl rfl hrun2) ?_) | (refine wpList_val rfl _ _ (run_append_op (.tmp 28) (.tmp 29) 34 34 rfl (by simp) (by simp) hrun2) ?_))
        go_roundw
        case rel => exact ⟨i + 1, out ++ [0] ++ [255], by omega, by go_num, by have := Hol.out; simp only [List.length_append, List.length_singleton]; omega, Hres.out, Own2.out, Bel2.out⟩
        case measure => simp [intOf]; omega
      · have Hres : Hid (esc bs = (out ++ [x]) ++ esc (bs.drop (i + 1))) := Lib.hid (by rw [Hesc2.out, Hdr.out, esc_n _ hx0]; simp)
        have g0 : ((x : Int) == 0) = false := beq_eq_false_iff_ne.2 (by omega)
        have g0' : ¬ (x : Int) = 0 := by omega
        go_wp2_with (at_builtin; first | (refine wpList_val rfl _ _ (run_append_op (.tmp 16) (.tmp 21) 34 34 rfl rfl rfl hrun1) ?_) | (refine wpList_val rfl _ _ (run_append_op (.tmp 16) (.tmp 21) 34 34 rfl (by simp) (by simp) hrun1) ?_) | (refine wpList_val rfl _ _ (run_append_op (.tmp 28) (.tmp 29) 34 34 rfl rfl rfl hrun2) ?_) | (refine wpList_val rfl _ _ (run_append_op (.tmp 28) (.tmp 29) 34 34 rfl (by simp) (by simp) hrun2) ?_))
        go_roundw
        case rel => exact ⟨i + 1, out ++ [x], by omega, by go_num, by have := Hol.out; simp only [List.length_append, List.length_singleton]; omega, Hres.out, Own1.out, Bel1.out⟩
        case measure => simp [intOf]; omega
    · obtain rfl : u.size = i := by omega
      have hfin : esc bs = out := by rw [Hesc2.out, List.drop_of_length_le (by rw [← Hnl.out]; exact Nat.le_refl _), esc, List.append_nil]
      obtain ⟨a1, n1, c1, w1, hrun1, ho1, hbb1⟩ := push2_bs wo W.heap.size _ out 0 1 Hown.out (by have := Hol.out; omega) Hb.out.size
      rw [← Hon.out] at hrun1
      have Own1 := Lib.hid ho1
      have Bel1 := Lib.hid (Hb.out.trans hbb1)
      have HK4 := Lib.hid ((Bel1.out.block _ (blk_lt HK.out)).trans HK.out)
      have hk1' : w1.cell? ⟨kb, 1, none⟩ = some (.int .i64 s) := by rw [cell_blkR HK4.out]; rfl
      rw [← hfin] at Own1
      clear ho1 hbb1 HK3 hfin
      obtain ⟨pre, hpre⟩ : ∃ q, q = esc bs ++ [0, 1] := ⟨_, rfl⟩
      have Hpre := Lib.hid hpre
      have Hpl : Hid (pre.length ≤ 130) := Lib.hid (by rw [hpre]; have h1 := Hesc.out; have h2 := Hln.out; simp only [List.length_append, List.length_cons, List.length_nil]; omega)
      rw [← hpre] at Own1
      clear hpre Hown Hb Hesc2 Hol Hon Hix
      go_wp2_with (at_builtin; first | (refine wpList_val rfl _ _ (run_append_op (.tmp 31) (.tmp 32) 34 34 rfl rfl rfl hrun1) ?_) | (refine wpList_val rfl _ _ (run_append_op (.tmp 31) (.tmp 32) 34 34 rfl (by simp) (by simp) hrun1) ?_))
      go_loopw [5, 6, 7] (fun nv lv iv wr => ∃ (i : Nat), i ≤ 6 ∧ iv = .int .i64 i ∧ nv = .int .i64 (A / 256 ^ i : Nat) ∧ OwnBs wr w1.heap.size lv (lowN i A) ∧ Below w1.heap.size w1 wr) (fun _ _ iv _ => 6 - (intOf iv).toNat)
      case atStart => exact ⟨0, by omega, rfl, by simp, World.ownsRow_nil _ _ _ _, Below.refl _ _⟩
      case round =>
        clear hk1' hrun1
        obtain ⟨wo2, rfl⟩ : ∃ wo2 : World, wo2 = wr := ⟨_, rfl⟩
        obtain ⟨i, hi6, rfl, rfl, hown, hb⟩ := hrel
        have Hown := Lib.hid hown
        have Hb := Lib.hid hb
        obtain ⟨la, lc, rfl⟩ := own_slice hown
        rw [lowN_len] at hown ⊢
        clear hown hb
        by_cases hi : i < 6
        · obtain ⟨y, hy⟩ : ∃ y, y = A / 256 ^ i := ⟨_, rfl⟩
          have hya : y ≤ A := by rw [hy]; exact Nat.div_le_self _ _
          have hq : A / 256 ^ (i + 1) = y / 256 := by rw [hy, Nat.div_div_eq_div_mul, Nat.pow_succ]
          obtain ⟨x, hx⟩ : ∃ x, x = y % 256 := ⟨_, rfl⟩
          have hx1 : (y : Int) % 256 = (x : Int) := by omega
          have hx256 : x < 256 := by omega
          obtain ⟨a2, n2, c2, w2, hrun2, ho2, hbb2⟩ := push_bs wo2 w1.heap.size _ (lowN i A) x Hown.out (by rw [lowN_len]; omega) Hb.out.size
          rw [lowN_len] at hrun2
          have e2 : lowN i A ++ [x] = lowN (i + 1) A := by rw [lowN, hx, hy]
          rw [e2] at ho2
          have Own2 := Lib.hid ho2
          have Bel2 := Lib.hid (Hb.out.trans hbb2)
          have Hq := Lib.hid hq
          obtain ⟨y2, hy2⟩ : ∃ y2 : Nat, y2 = y / 256 := ⟨_, rfl⟩
          have Hy2 := Lib.hid hy2
          have hy3 : (y : Int) / 256 = (y2 : Int) := by omega
          rw [← hy]
          clear ho2 hbb2 hq e2 hy hx hy2
          go_wp2_with (at_builtin; first | (refine wpList_val rfl _ _ (run_append_op (.tmp 41) (.tmp 45) 34 34 rfl rfl rfl hrun2) ?_) | (refine wpList_val rfl _ _ (run_append_op (.tmp 41) (.tmp 45) 34 34 rfl (by simp) (by simp) hrun2) ?_))
          go_roundw
          case rel => exact ⟨i + 1, by omega, by go_num, by rw [Hq.out, Hy2.out], Own2.out, Bel2.out⟩
          case measure => simp [intOf]; omega
        · obtain rfl : i = 6 := by omega
          have hsep1 : ∀ x, (Value.slice a1 n1 c1).ownBlock = some x → x < w1.heap.size := fun x hx => (Own1.out.lt x hx).2
          obtain ⟨g, rfl⟩ : ∃ g, la = some ⟨g, 0, none⟩ := by
            rcases Hown.out.2 with ⟨q, hq⟩ | ⟨g, cap, cur, hv, _⟩
            · rw [lowN_len] at hq; omega
            · injection hv with hv; exact ⟨g, hv⟩
          have hown6 := Hown.out
          rw [OwnBs, lowN_len] at hown6
          obtain ⟨cur, hblk, hbg, -, -, -, hcur⟩ := own_blk hown6
          have Hblk := Lib.hid hblk
          have Hcell : Hid (∀ (X : World), X.heap[g]? = some (.cells cur 5 (0, 0)) → ∀ j, j < 6 → X.cell? ⟨g, j, none⟩ = some (.int .u8 (A / 256 ^ j % 256 : Nat))) := Lib.hid (fun X hX j hj => by
            rw [cell_of_blk hX]
            have h1 : (cur.toList.take (6 * 1))[j]? = some (.int .u8 (A / 256 ^ j % 256 : Nat)) := by
              rw [hcur]
              have := flat_at (lowN 6 A) j (by rw [lowN_len]; exact hj)
              rw [this, lowN_at 6 A j hj]; rfl
            rw [List.getElem?_take] at h1
            rw [if_pos (by omega)] at h1
            rw [← h1, Array.getElem?_toList])
          have Hpre1 := Lib.hid (own_below Own1.out Hb.out)
          have Hbel1 := Lib.hid (Bel1.out.trans (Hb.out.mono Bel1.out.size))
          have Hsep : Hid ((Value.slice a1 n1 c1).ownBlock ≠ some g) := Lib.hid (fun e => by have := hsep1 g e; omega)
          generalize (A / 256 ^ 6 : Nat) = q6
          rw [show ((6 : Nat) : Int) = 6 from rfl]
          clear hsep1 hown6 hblk hbg hcur Own1 Bel1 HK4 Hown Hb hi
          go_wp2_with fail
          go_loopw [3, 8] (fun ov iv wr => ∃ (i : Nat) (out : List Nat), i ≤ 6 ∧ iv = .int .i64 ((i : Int) - 1) ∧ out.length = pre.length + (6 - i) ∧ pre ++ bytN 6 A = out ++ bytN i A ∧ OwnBs wr W.heap.size ov out ∧ wr.heap[g]? = some (.cells cur 5 (0, 0)) ∧ ov.ownBlock ≠ some g ∧ Below W.heap.size W wr) (fun _ iv _ => (intOf iv + 1).toNat)
          case atStart => exact ⟨6, pre, by omega, rfl, by omega, rfl, Hpre1.out, Hblk.out, Hsep.out, Hbel1.out⟩
          case round =>
            clear Hpre1 Hbel1 Hsep Hblk
            obtain ⟨wo3, rfl⟩ : ∃ wo3 : World, wo3 = wr := ⟨_, rfl⟩
            obtain ⟨i, out, hi6, rfl, hol, hby, hown, hbk, hsp, hb⟩ := hrel
            have Hown := Lib.hid hown
            have Hb := Lib.hid hb
            have Hol := Lib.hid hol
            have Hby := Lib.hid hby
            have Hbk := Lib.hid hbk
            have Hsp := Lib.hid hsp
            obtain ⟨oa, oc, rfl⟩ := own_slice hown
            obtain ⟨on, hon⟩ : ∃ q, q = out.length := ⟨_, rfl⟩
            have Hon := Lib.hid hon
            rw [← hon] at Hsp ⊢
            have hol2 : out.length ≤ 136 := by have := Hpl.out; omega
            clear hown hb hol hby hon hbk hsp
            match i, hi6, Hol, Hby with
            | i + 1, hi6, Hol, Hby =>
              obtain ⟨x, hx⟩ : ∃ x, x = A / 256 ^ i % 256 := ⟨_, rfl⟩
              have d0 := Hcell.out wo3 Hbk.out i (by omega)
              rw [← hx] at d0
              have Hres : Hid (pre ++ bytN 6 A = (out ++ [x]) ++ bytN i A) := Lib.hid (by rw [Hby.out, hx]; show out ++ (_ :: bytN i A) = _; simp)
              have hx256 : x < 256 := by omega
              obtain ⟨a1, n1, c1, w1, hrun1, ho1, hbb1, hfar⟩ := push_far wo3 W.heap.size _ out x Hown.out (by omega) Hb.out.size
              rw [← Hon.out] at hrun1 hfar
              obtain ⟨hbk2, hsp2⟩ := hfar _ _ Hbk.out Hsp.out
              have Own1 := Lib.hid ho1
              have Bel1 := Lib.hid (Hb.out.trans hbb1)
              have Hbk2 := Lib.hid hbk2
              have Hsp2 := Lib.hid hsp2
              have hi1 : ((i + 1 : Nat) : Int) - 1 = (i : Int) := by omega
              rw [hi1]
              have hi5 : i < 6 := by omega
              clear ho1 hbb1 hx hfar hbk2 hsp2 hi1
              go_wp2_with (at_builtin; first | (refine wpList_val rfl _ _ (run_append_op (.tmp 53) (.tmp 58) 34 34 rfl rfl rfl hrun1) ?_) | (refine wpList_val rfl _ _ (run_append_op (.tmp 53) (.tmp 58) 34 34 rfl (by simp) (by simp) hrun1) ?_))
              go_roundw
              case rel => exact ⟨i, out ++ [x], by omega, by go_num, by have := Hol.out; simp only [List.length_append, List.length_singleton]; omega, Hres.out, Own1.out, Hbk2.out, Hsp2.out, Bel1.out⟩
              case measure => simp [intOf]
            | 0, hi6, Hol, Hby =>
              have hfin : out = pre ++ bytN 6 A := by rw [Hby.out, bytN, List.append_nil]
              have HK3 := Lib.hid ((Hb.out.block _ (blk_lt HK.out)).trans HK.out)
              have hk2 : wo3.cell? ⟨kb, 2, none⟩ = some (.int .i64 kd) := by rw [cell_blkR HK3.out]; rfl
              have hle : w.heap.size ≤ W.heap.size := Hal.out.size
              have hkd3 := Hkd.out
              clear HK3
              rcases hkd3 with ⟨rfl, rfl⟩ | ⟨rfl, rfl⟩ | ⟨rfl, rfl⟩
              all_goals
                obtain ⟨a1, n1, c1, w1, hrun1, ho1, hbb1⟩ := push_bs wo3 W.heap.size _ out _ Hown.out (by omega) Hb.out.size
                rw [← Hon.out] at hrun1
                rw [hfin, Hpre.out, ← HE.out] at ho1
                have Own1 := Lib.hid ho1
                have HB1 := Lib.hid (Hal.out.trans ((Hb.out.trans hbb1).mono (by have := Hkb.out; omega)))
                clear ho1 hbb1
                go_wp2_with (at_builtin; first | (refine wpList_val rfl _ _ (run_append_op (.tmp 60) (.tmp 65) 34 34 rfl rfl rfl hrun1) ?_) | (refine wpList_val rfl _ _ (run_append_op (.tmp 60) (.tmp 65) 34 34 rfl (by simp) (by simp) hrun1) ?_))
                go_ret
                exact ⟨_, rfl, own_mono Own1.out hle, by have := HB1.out; rw [Hkb.out] at this; exact this⟩
end Go.Proofs.Ythjjelomlgmllaa.Tithe
