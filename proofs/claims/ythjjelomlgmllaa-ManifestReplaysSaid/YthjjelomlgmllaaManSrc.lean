/- manifest's source: count, list, key: walked (printed by mkmansrc.py). -/
import Derived.Test.YthjjelomlgmllaaManKeyB
import Derived.Test.YthjjelomlgmllaaManZone
import Derived.Test.YthjjelomlgmllaaLevMem
namespace Go.Proofs.Ythjjelomlgmllaa.Tithe
open Go.RowKit Go.Sort Go.Shelf
set_option linter.unusedVariables false
set_option linter.unusedSimpArgs false
set_option maxRecDepth 100000
/-- what is left to be read, and the two flags -/
structure So where
  cs : List Nat
  bad : Bool
  sb : Bool
def numS (s : So) : Nat × So := ((numB s.bad s.cs).1, ⟨(numB s.bad s.cs).2.1, (numB s.bad s.cs).2.2, s.sb⟩)
def cntS (s : So) : Nat × So := if 64 < (numS s).1 ∨ (numS s).2.bad = true then (0, ⟨(numS s).2.cs, (numS s).2.bad, true⟩) else numS s
def lstN : Nat → So → List Int × So
  | 0, s => ([], s)
  | n + 1, s => (((numS s).1 : Int) :: (lstN n (numS s).2).1, (lstN n (numS s).2).2)
def lstS (s : So) : List Int × So := lstN (cntS s).1 (cntS s).2
def keyO (t : List Nat) : Ky := if (keyR t).2 then (keyR t).1 else Ky.nil
def keyS (s : So) : Ky × So := (keyO (txtR s.bad s.cs).1, ⟨(txtR s.bad s.cs).2.1, (txtR s.bad s.cs).2.2, s.sb || !(keyR (txtR s.bad s.cs).1).2⟩)
/-- a source in memory -/
structure IsSo (w0 w : World) (xb rb : Nat) (s : So) : Prop where
  blk : w.heap[xb]? = some (.cells #[.pointer (some ⟨rb, 0, none⟩), .bool s.sb] 107 (0, 0))
  rd : IsRd w0 w rb s.cs s.bad
  ne : rb < xb
  lt : ∀ x ∈ s.cs, x < 256
  len : s.cs.length ≤ 100000
/-- other blocks stay -/
def KpS (w w' : World) (xb rb : Nat) : Prop := w.heap.size ≤ w'.heap.size ∧ ∀ k, k < w.heap.size → k ≠ xb → k ≠ rb → w'.heap[k]? = w.heap[k]?
theorem KpS.refl (w : World) (xb rb : Nat) : KpS w w xb rb := ⟨Nat.le_refl _, fun _ _ _ _ => rfl⟩
theorem KpS.trans {w w1 w2 : World} {xb rb : Nat} (h : KpS w w1 xb rb) (h2 : KpS w1 w2 xb rb) : KpS w w2 xb rb := ⟨Nat.le_trans h.1 h2.1, fun k hk h3 h4 => (h2.2 k (Nat.lt_of_lt_of_le hk h.1) h3 h4).trans (h.2 k hk h3 h4)⟩
theorem KpS.at {w w' : World} {xb rb k : Nat} {o : Obj} (h : KpS w w' xb rb) (hk : w.heap[k]? = some o) (h3 : k ≠ xb) (h4 : k ≠ rb) : w'.heap[k]? = some o := (h.2 k (blk_lt hk) h3 h4).trans hk
theorem KpS.of_bel {w w' : World} {xb rb : Nat} (h : Below w.heap.size w w') : KpS w w' xb rb := ⟨h.size, fun k hk _ _ => h.block k hk⟩
theorem KpS.of_grown {w w' : World} {xb rb : Nat} (h : w.grownBy w' (some rb)) : KpS w w' xb rb := ⟨h.size, fun k hk _ h4 => h.block k hk (fun e => h4 (by injection e))⟩
theorem KpS.own {w w' : World} {xb rb base : Nat} {e : TypeId} {sz n : Nat} {v : Value} {xs : List Value} (h : w.ownsRow base e sz v n xs) (hk : KpS w w' xb rb) (hx : ∀ cs t fr, w.heap[xb]? = some (.cells cs t fr) → t ≠ e) (hr : ∀ cs t fr, w.heap[rb]? = some (.cells cs t fr) → t ≠ e) : w'.ownsRow base e sz v n xs := by
  refine ⟨h.1, ?_⟩
  rcases h.2 with h0 | ⟨g, cap, cur, hv, hb, hh, r⟩
  · exact .inl h0
  · exact .inr ⟨g, cap, cur, hv, hb, hk.at hh (fun e1 => hx _ _ _ (by rw [← e1]; exact hh) rfl) (fun e1 => hr _ _ _ (by rw [← e1]; exact hh) rfl), r⟩
theorem IsSo.rlt {w0 w : World} {xb rb : Nat} {s : So} (h : IsSo w0 w xb rb s) : rb < w.heap.size ∧ xb < w.heap.size := by
  obtain ⟨v, hv, -⟩ := h.rd.ex
  exact ⟨blk_lt hv, blk_lt h.blk⟩
/-- rows of other types stay -/
theorem IsSo.own {w0 w w' : World} {xb rb base : Nat} {s : So} {e : TypeId} {sz n : Nat} {v : Value} {xs : List Value} (hs : IsSo w0 w xb rb s) (h : w.ownsRow base e sz v n xs) (hk : KpS w w' xb rb) (h1 : e ≠ 107) (h2 : e ≠ 135) : w'.ownsRow base e sz v n xs := by
  refine KpS.own h hk (fun cs t fr hx => ?_) (fun cs t fr hx => ?_)
  · rw [hs.blk] at hx
    injection hx with hx
    injection hx with _ hx _
    rw [← hx]; exact Ne.symm h1
  · obtain ⟨v, hv, -⟩ := hs.rd.ex
    rw [hv] at hx
    injection hx with hx
    injection hx with _ hx _
    rw [← hx]; exact Ne.symm h2
theorem IsRd.keep {w0 w w' : World} {rb : Nat} {bs : List Nat} {bad : Bool} (h : IsRd w0 w rb bs bad) (hb : Below w0.heap.size w w') (hr : w'.heap[rb]? = w.heap[rb]?) : IsRd w0 w' rb bs bad := by
  obtain ⟨⟨v, hv, hs⟩, h2, h3⟩ := h
  exact ⟨⟨v, hr.trans hv, hs⟩, h2.trans hb, h3⟩
theorem IsSo.bel {w0 w w' : World} {xb rb : Nat} {s : So} (h : IsSo w0 w xb rb s) (hb : Below w.heap.size w w') : IsSo w0 w' xb rb s :=
  ⟨blk_bels hb h.blk, h.rd.keep (hb.mono h.rd.below.size) (hb.block rb h.rlt.1), h.ne, h.lt, h.len⟩
/-- what may change besides: blocks that are neither the source's nor the reader's -/
theorem IsSo.keep {w0 w w' : World} {xb rb : Nat} {s : So} (h : IsSo w0 w xb rb s) (hb : Below w0.heap.size w w') (hx : w'.heap[xb]? = w.heap[xb]?) (hr : w'.heap[rb]? = w.heap[rb]?) : IsSo w0 w' xb rb s :=
  ⟨hx.trans h.blk, h.rd.keep hb hr, h.ne, h.lt, h.len⟩
theorem rdN_len : ∀ (f i acc : Nat) (bs : List Nat), (rdN f i acc bs).2.1.length ≤ bs.length
  | 0, _, _, bs => Nat.le_refl _
  | _ + 1, _, _, [] => Nat.le_refl _
  | f + 1, i, acc, y :: bs => by
    unfold rdN
    split
    · split <;> simp
    · exact Nat.le_trans (rdN_len f (i + 1) _ bs) (by simp)
theorem numB_len (bad : Bool) (bs : List Nat) : (numB bad bs).2.1.length ≤ bs.length := by
  unfold numB
  split
  · exact Nat.le_refl _
  · exact rdN_len 9 0 0 bs
theorem number_so {w0 w : World} {xb rb : Nat} {s : So} (h : IsSo w0 w xb rb s) :
    Calls Try.prog 42 #[.pointer (some ⟨rb, 0, none⟩)] w fun e w' => e = .returned (.int .i64 (numS s).1) ∧ IsSo w0 w' xb rb (numS s).2 ∧ KpS w w' xb rb := by
  refine (num_any w0 w rb s.cs s.bad h.rd h.lt).mono ?_
  rintro e w' ⟨rfl, h2, hg⟩
  have hk : KpS w w' xb rb := KpS.of_grown hg
  have hne : xb ≠ rb := by have := h.ne; omega
  exact ⟨rfl, ⟨(hg.block xb (blk_lt h.blk) (fun e => hne (by injection e))).trans h.blk, h2, h.ne, fun x hx => h.lt x (numB_sub _ _ x hx), Nat.le_trans (numB_len _ _) h.len⟩, hk⟩
attribute [local go_sem] Oper.semAt_some
theorem rdbad_any (w0 w : World) (rb : Nat) (bs : List Nat) (bad : Bool) (h : IsRd w0 w rb bs bad) :
    Calls Try.prog 74 #[.pointer (some ⟨rb, 0, none⟩)] w fun e w' => e = .returned (.bool bad) ∧ w' = w := by
  obtain ⟨⟨v, hblk, hbs⟩, hbel, hold⟩ := h
  have c1 : w.cell? ⟨rb, 1, none⟩ = some (.bool bad) := by rw [cell_blkR hblk]; rfl
  clear hblk hbs hbel hold
  go_enter Try.func74, Try.ntmps74
  go_wp2
  go_ret
  exact ⟨rfl, rfl⟩
theorem IsSo.set {w0 w : World} {xb rb : Nat} {s : So} (h : IsSo w0 w xb rb s) (b : Bool) : IsSo w0 (w.setCell ⟨xb, 1, none⟩ (.bool b)) xb rb ⟨s.cs, s.bad, b⟩ ∧ KpS w (w.setCell ⟨xb, 1, none⟩ (.bool b)) xb rb := by
  have hx : w0.heap.size ≤ xb := by have := h.rd.old; have := h.ne; omega
  have hg := grown_setCellR w xb 1 (.bool b)
  refine ⟨⟨by rw [blk_setCellR h.blk]; rfl, h.rd.other hg (by have := h.ne; omega) hx, h.ne, h.lt, h.len⟩, hg.size, fun k hk h3 _ => hg.block k hk (fun e => h3 (by injection e))⟩
set_option maxHeartbeats 1600000 in
theorem count_any (w0 w : World) (xb rb : Nat) (s : So) (h : IsSo w0 w xb rb s) :
    Calls Try.prog 44 #[.pointer (some ⟨xb, 0, none⟩)] w fun e w' => e = .returned (.int .i64 (cntS s).1) ∧ IsSo w0 w' xb rb (cntS s).2 ∧ KpS w w' xb rb := by
  have Hn := Lib.hid (number_so h)
  have hblk := h.blk
  have c0 : w.cell? ⟨xb, 0, none⟩ = some (.pointer (some ⟨rb, 0, none⟩)) := by rw [cell_blkR hblk]; rfl
  obtain ⟨⟨n, s1⟩, hp⟩ : ∃ p, p = numS s := ⟨_, rfl⟩
  rw [← hp] at Hn
  dsimp only at Hn
  have hc : cntS s = if 64 < n ∨ s1.bad = true then (0, ⟨s1.cs, s1.bad, true⟩) else (n, s1) := by unfold cntS; rw [← hp]
  obtain ⟨cn, hcn⟩ : ∃ q, q = cntS s := ⟨_, rfl⟩
  rw [← hcn] at hc ⊢
  have Hc := Lib.hid hc
  clear hp h hc hcn hblk
  go_enter Try.func44, Try.ntmps44
  go_wp2_with fail
  refine Hn.out.mono ?_
  rintro e w1 ⟨rfl, h1, hk1⟩
  have hblk1 := h1.blk
  have c1 : w1.cell? ⟨xb, 0, none⟩ = some (.pointer (some ⟨rb, 0, none⟩)) := by rw [cell_blkR hblk1]; rfl
  have c2 : w1.cell? ⟨xb, 1, none⟩ = some (.bool s1.sb) := by rw [cell_blkR hblk1]; rfl
  have f2 : w1.frozen? ⟨xb, 1, none⟩ = false := frozen_blkR hblk1 1
  have Hbad := Lib.hid (rdbad_any w0 w1 rb s1.cs s1.bad h1.rd)
  obtain ⟨hset1, hset2⟩ := h1.set true
  have Hs1 := Lib.hid hset1
  have Hs2 := Lib.hid (hk1.trans hset2)
  have H1 := Lib.hid h1
  have HK1 := Lib.hid hk1
  clear hblk1 h1 hk1 hset1 hset2 Hn c0
  by_cases h64 : 64 < n
  · have hi : (64 : Int) < (n : Int) := by omega
    have hi2 : decide ((n : Int) > 64) = true := decide_eq_true hi
    have hi3 : decide ((64 : Int) < (n : Int)) = true := decide_eq_true hi
    have Hf : Hid (cn = (0, ⟨s1.cs, s1.bad, true⟩)) := Lib.hid (by rw [Hc.out, if_pos (.inl h64)])
    go_wp2_with fail
    go_ret
    rw [Hf.out]
    exact ⟨rfl, Hs1.out, Hs2.out⟩
  · have hi : ¬ (64 : Int) < (n : Int) := by omega
    have hi2 : decide ((n : Int) > 64) = false := decide_eq_false hi
    have hi3 : decide ((64 : Int) < (n : Int)) = false := decide_eq_false hi
    obtain ⟨cs1, bd1, sb1⟩ := s1
    dsimp only at *
    cases bd1 with
    | true =>
      have Hf : Hid (cn = (0, ⟨cs1, true, true⟩)) := Lib.hid (by rw [Hc.out, if_pos (.inr rfl)])
      go_wp2_with fail
      refine Hbad.out.mono ?_
      rintro e w2 ⟨rfl, rfl⟩
      go_wp2_with fail
      go_ret
      rw [Hf.out]
      exact ⟨rfl, Hs1.out, Hs2.out⟩
    | false =>
      have Hf : Hid (cn = (n, ⟨cs1, false, sb1⟩)) := Lib.hid (by rw [Hc.out, if_neg (by simp; omega)])
      go_wp2_with fail
      refine Hbad.out.mono ?_
      rintro e w2 ⟨rfl, rfl⟩
      go_wp2_with fail
      go_ret
      rw [Hf.out]
      exact ⟨rfl, H1.out, HK1.out⟩
theorem intInfo1 : (Try.prog.info? 3).map (fun i => (i.zero, i.size, i.bytes)) = some (some (.int .i64 0), 1, 8) := by kernel_rfl
abbrev OwnZ (W : World) (base : Nat) (v : Value) (l : List Int) : Prop := W.ownsRow base 3 1 v l.length (flat zzC l)
theorem zz_one (l : List Int) : ∀ u ∈ flat zzC l, u.oneCell' = true := by
  intro u hu
  simp only [flat, List.mem_flatMap] at hu
  obtain ⟨r, hr, hu⟩ := hu
  simp [zzC] at hu
  rw [hu]; rfl
theorem push_z (W : World) (base : Nat) (v : Value) (l : List Int) (x : Int) (h : OwnZ W base v l) (hl : l.length ≤ 1000000) (hb : base ≤ W.heap.size) :
    ∃ (a' : Option Addr) (n' c' : Nat) (w2 : World), (Builtin.append_ #[22, 22] 22 #[v, .slice (some ⟨W.heap.size, 0, none⟩) 1 1]).run Try.prog (W.alloc (.cells #[.int .i64 x] 3)) = .ok (.slice a' n' c') w2 ∧ OwnZ w2 base (.slice a' n' c') (l ++ [x]) ∧ (W.alloc (.cells #[.int .i64 x] 3)).grownBy w2 v.ownBlock := by
  obtain ⟨i0, hi0, hz0, hz1, hz2⟩ := info_partsR intInfo1
  have hal : Below W.heap.size W (W.alloc (.cells #[.int .i64 x] 3)) := (Below.refl _ _).alloc (Nat.le_refl _) _
  have hx : IsZs (W.alloc (.cells #[.int .i64 x] 3)) (.slice (some ⟨W.heap.size, 0, none⟩) 1 1) [x] := isSl_lit zzC_len [x] #[.int .i64 x] 3 W.heap.size rfl rfl 1 rfl (by unfold maxLen; omega)
  have ho : OwnZ (W.alloc (.cells #[.int .i64 x] 3)) base v l := own_below h hal
  obtain ⟨v', w2, hrun, r1, r2, -⟩ := run_append_own (P := Try.prog) (W.alloc (.cells #[.int .i64 x] 3)) base 22 22 3 i0 (.int .i64 0) 1 8 Try.underlying22 hi0 hz0 hz1 hz2 rfl (by decide) v l.length (flat zzC l) ho ⟨W.heap.size, 0, none⟩ 1 1 (flat zzC [x]) rfl (fun j u hj => hx.news zzC_len j u hj) (zz_one [x]) (by unfold maxLen; omega) (by omega) (Nat.le_trans hb hal.size)
  have h2 : OwnZ w2 base v' (l ++ [x]) := by
    unfold OwnZ
    rw [List.length_append, flat_append]
    exact r1
  obtain ⟨n', hn'⟩ : ∃ n', n' = (l ++ [x]).length := ⟨_, rfl⟩
  have h2' := h2
  rw [OwnZ, ← hn'] at h2'
  obtain ⟨a', c', rfl⟩ := own_slice h2'
  exact ⟨a', n', c', w2, hrun, h2, r2⟩
/-- an append to an own row of the caller: the source stays -/
theorem IsSo.grow {w0 w W W1 w2 : World} {xb rb base : Nat} {s : So} {e : TypeId} {sz n : Nat} {v : Value} {xs : List Value} (h : IsSo w0 W xb rb s) (hk : KpS w W xb rb) (hw : w.heap.size ≤ base) (hw0 : w0.heap.size ≤ base) (hbW : base ≤ W.heap.size) (ho : W.ownsRow base e sz v n xs) (hal : Below W.heap.size W W1) (hg : W1.grownBy w2 v.ownBlock) (h1 : e ≠ 107) (h2 : e ≠ 135) :
    IsSo w0 w2 xb rb s ∧ KpS w w2 xb rb ∧ Below base W w2 := by
  have hb1 : Below base W w2 := (hal.mono hbW).grown hg (Nat.le_trans hbW hal.size) (fun g e => (ho.lt g e).1)
  have hx : v.ownBlock ≠ some xb := fun q => by
    obtain ⟨cur, hc⟩ := own_rowblk ho xb q
    rw [h.blk] at hc
    injection hc with hc
    injection hc with _ hc _
    exact h1 hc.symm
  have hr : v.ownBlock ≠ some rb := fun q => by
    obtain ⟨cur, hc⟩ := own_rowblk ho rb q
    obtain ⟨v, hv, -⟩ := h.rd.ex
    rw [hv] at hc
    injection hc with hc
    injection hc with _ hc _
    exact h2 hc.symm
  have hxl := h.rlt
  refine ⟨h.keep (hb1.mono hw0) ((hg.block xb (Nat.lt_of_lt_of_le hxl.2 hal.size) (fun q => hx q.symm)).trans (hal.block xb hxl.2)) ((hg.block rb (Nat.lt_of_lt_of_le hxl.1 hal.size) (fun q => hr q.symm)).trans (hal.block rb hxl.1)), ⟨Nat.le_trans hk.1 hb1.size, fun k h3 h4 h5 => (hb1.block k (Nat.lt_of_lt_of_le h3 hw)).trans (hk.2 k h3 h4 h5)⟩, hb1⟩
theorem lstN_add (s : So) (n k : Nat) (d : List Int) (st : So) (h : lstN n s = (d ++ (lstN (k + 1) st).1, (lstN (k + 1) st).2)) : lstN n s = ((d ++ [((numS st).1 : Int)]) ++ (lstN k (numS st).2).1, (lstN k (numS st).2).2) := by
  rw [h]
  show (d ++ (((numS st).1 : Int) :: (lstN k (numS st).2).1), (lstN k (numS st).2).2) = _
  rw [List.append_assoc]; rfl
theorem cntS_le (s : So) : (cntS s).1 ≤ 64 := by
  unfold cntS
  split
  · exact Nat.zero_le _
  · rename_i h
    exact Nat.le_of_not_lt (fun q => h (.inl q))
set_option maxHeartbeats 1600000 in
theorem list_any (w0 w : World) (xb rb : Nat) (s : So) (h : IsSo w0 w xb rb s) :
    Calls Try.prog 43 #[.pointer (some ⟨xb, 0, none⟩)] w fun e w' => ∃ v, e = .returned v ∧ OwnZ w' w.heap.size v (lstS s).1 ∧ IsSo w0 w' xb rb (lstS s).2 ∧ KpS w w' xb rb := by
  have hw0 : w0.heap.size ≤ w.heap.size := h.rd.below.size
  have Hcn := Lib.hid (count_any w0 w xb rb s h)
  obtain ⟨⟨n, s1⟩, hp⟩ : ∃ p, p = cntS s := ⟨_, rfl⟩
  have hn64 : n ≤ 64 := by have := cntS_le s; rw [← hp] at this; exact this
  rw [← hp] at Hcn
  dsimp only at Hcn
  have hc : lstS s = lstN n s1 := by unfold lstS; rw [← hp]
  obtain ⟨L, hL⟩ : ∃ q, q = lstS s := ⟨_, rfl⟩
  rw [← hL] at hc ⊢
  have Hc := Lib.hid hc
  clear hp h hc hL
  go_enter Try.func43, Try.ntmps43
  go_wp2_with fail
  refine Hcn.out.mono ?_
  rintro e w1 ⟨rfl, h1, hk1⟩
  have H1 := Lib.hid h1
  have HK1 := Lib.hid hk1
  clear h1 hk1 Hcn
  go_wp2_with fail
  go_loopw [3, 6] (fun ov iv wr => ∃ (k : Nat) (d : List Int) (st : So), k ≤ n ∧ iv = .int .i64 k ∧ d.length = k ∧ L = (d ++ (lstN (n - k) st).1, (lstN (n - k) st).2) ∧ IsSo w0 wr xb rb st ∧ KpS w wr xb rb ∧ OwnZ wr w.heap.size ov d) (fun _ i _ => n - (intOf i).toNat)
  case atStart => exact ⟨0, [], s1, Nat.zero_le _, rfl, rfl, by rw [Hc.out]; rfl, H1.out, HK1.out, World.ownsRow_nil _ _ _ _⟩
  case round =>
    clear H1 HK1
    obtain ⟨wo, rfl⟩ : ∃ wo : World, wo = wr := ⟨_, rfl⟩
    obtain ⟨k, d, st, hk, rfl, hd, hl, hs, hks, ho⟩ := hrel
    have Hl := Lib.hid hl
    have Hs := Lib.hid hs
    have Hks := Lib.hid hks
    have Ho := Lib.hid ho
    obtain ⟨oa, oc, rfl⟩ := own_slice ho
    have Hon := Lib.hid hd.symm
    rw [hd]
    clear hl hs hks ho hd
    by_cases hkn : k < n
    · have Hl2 : Hid (L = ((d ++ [((numS st).1 : Int)]) ++ (lstN (n - (k + 1)) (numS st).2).1, (lstN (n - (k + 1)) (numS st).2).2)) := Lib.hid (by
        have h3 := Hl.out
        rw [show n - k = (n - (k + 1)) + 1 by omega] at h3
        rw [h3]
        show (d ++ (((numS st).1 : Int) :: (lstN (n - (k + 1)) (numS st).2).1), (lstN (n - (k + 1)) (numS st).2).2) = _
        rw [List.append_assoc]; rfl)
      have hb0 := Hs.out.blk
      have c0 : wo.cell? ⟨xb, 0, none⟩ = some (.pointer (some ⟨rb, 0, none⟩)) := by rw [cell_blkR hb0]; rfl
      have Hnu := Lib.hid (number_so Hs.out)
      obtain ⟨⟨x, st2⟩, hx⟩ : ∃ p, p = numS st := ⟨_, rfl⟩
      rw [← hx] at Hnu Hl2
      dsimp only at Hnu Hl2
      clear hb0 hx
      go_wp2_with fail
      refine Hnu.out.mono ?_
      rintro e w2 ⟨rfl, h2, hk2⟩
      have ho2 : OwnZ w2 w.heap.size (.slice oa d.length oc) d := Hs.out.own Ho.out hk2 (by decide) (by decide)
      have hwle : w.heap.size ≤ w2.heap.size := Nat.le_trans Hks.out.1 hk2.1
      obtain ⟨a', n', c', w3, hrun, ho3, hg3⟩ := push_z w2 w.heap.size _ d x ho2 (by have := Hon.out; omega) hwle
      obtain ⟨hs3, hk3, -⟩ := h2.grow (Hks.out.trans hk2) (Nat.le_refl _) hw0 hwle ho2 ((Below.refl _ _).alloc (Nat.le_refl _) _) hg3 (by decide) (by decide)
      rw [← Hon.out] at hrun
      have Ho3 := Lib.hid ho3
      have Hs3 := Lib.hid hs3
      have Hk3 := Lib.hid hk3
      clear h2 hk2 ho2 ho3 hg3 hs3 hk3 hwle
      go_wp2_with (at_builtin; first | (refine wpList_val rfl _ _ (run_append_op (.tmp 8) (.tmp 14) 22 22 rfl rfl rfl hrun) ?_) | (refine wpList_val rfl _ _ (run_append_op (.tmp 8) (.tmp 14) 22 22 rfl (by simp) (by simp) hrun) ?_))
      go_roundw
      case rel => exact ⟨k + 1, d ++ [(x : Int)], st2, by omega, by go_num, by rw [List.length_append, ← Hon.out, List.length_singleton], Hl2.out, Hs3.out, Hk3.out, Ho3.out⟩
      case measure => simp [intOf]; omega
    · obtain rfl : k = n := by omega
      have Hf : Hid (L = (d, st)) := Lib.hid (by rw [Hl.out, Nat.sub_self]; show (d ++ [], st) = _; rw [List.append_nil])
      go_wp2_with fail
      go_ret
      rw [Hf.out]
      exact ⟨_, rfl, by have := Ho.out; rw [← Hon.out] at this; exact this, Hs.out, Hks.out⟩
theorem txtR_ok {bad : Bool} {cs : List Nat} (h1 : ∀ x ∈ cs, x < 256) (h2 : cs.length ≤ 100000) : (∀ x ∈ (txtR bad cs).2.1, x < 256) ∧ (txtR bad cs).2.1.length ≤ 100000 ∧ (∀ x ∈ (txtR bad cs).1, x < 256) ∧ (txtR bad cs).1.length ≤ 100000 := by
  have h3 : ∀ x ∈ (numB bad cs).2.1, x < 256 := fun x hx => h1 x (numB_sub _ _ x hx)
  have h4 : (numB bad cs).2.1.length ≤ 100000 := Nat.le_trans (numB_len _ _) h2
  unfold txtR
  split
  · refine ⟨h3, h4, ?_, Nat.zero_le _⟩
    intro x hx
    cases hx
  · refine ⟨?_, ?_, ?_, ?_⟩
    · intro x hx; exact h3 x (List.mem_of_mem_drop hx)
    · rw [List.length_drop]; omega
    · intro x hx; exact h3 x (List.mem_of_mem_take hx)
    · rw [List.length_take]; omega
theorem so_set3 {w0 w X : World} {xb rb kb : Nat} {s : So} (h : IsSo w0 X xb rb s) (hk : KpS w X xb rb) (hw0 : w0.heap.size ≤ w.heap.size) (h1 : w.heap.size ≤ kb) (h2 : kb ≠ xb) (h3 : kb ≠ rb) (x y z : Value) :
    IsSo w0 (((X.setCell ⟨kb, 0, none⟩ x).setCell ⟨kb, 1, none⟩ y).setCell ⟨kb, 2, none⟩ z) xb rb s ∧ KpS w (((X.setCell ⟨kb, 0, none⟩ x).setCell ⟨kb, 1, none⟩ y).setCell ⟨kb, 2, none⟩ z) xb rb := by
  have hb : Below w.heap.size X (((X.setCell ⟨kb, 0, none⟩ x).setCell ⟨kb, 1, none⟩ y).setCell ⟨kb, 2, none⟩ z) := Below.setCell (p := ⟨kb, 2, none⟩) (Below.setCell (p := ⟨kb, 1, none⟩) (Below.setCell (p := ⟨kb, 0, none⟩) (Below.refl _ _) h1 _) h1 _) h1 _
  have hh : ∀ k, k ≠ kb → (((X.setCell ⟨kb, 0, none⟩ x).setCell ⟨kb, 1, none⟩ y).setCell ⟨kb, 2, none⟩ z).heap[k]? = X.heap[k]? := fun k hne => (Below.heap_setCell _ ⟨kb, 2, none⟩ z k hne).trans ((Below.heap_setCell _ ⟨kb, 1, none⟩ y k hne).trans (Below.heap_setCell _ ⟨kb, 0, none⟩ x k hne))
  exact ⟨h.keep (hb.mono hw0) (hh xb h2.symm) (hh rb h3.symm), Nat.le_trans hk.1 hb.size, fun k a b c => (hb.block k a).trans (hk.2 k a b c)⟩
set_option maxHeartbeats 3200000 in
theorem skey_any (w0 w : World) (xb rb : Nat) (s : So) (h : IsSo w0 w xb rb s) :
    Calls Try.prog 45 #[.pointer (some ⟨xb, 0, none⟩)] w fun e w' => e = .returned (keyS s).1.v ∧ IsSo w0 w' xb rb (keyS s).2 ∧ KpS w w' xb rb := by
  obtain ⟨⟨t, cs1, bd1⟩, hp⟩ : ∃ p, p = txtR s.bad s.cs := ⟨_, rfl⟩
  have hk : keyS s = (keyO t, ⟨cs1, bd1, s.sb || !(keyR t).2⟩) := by unfold keyS; rw [← hp]
  obtain ⟨l1, l2, l3, l4⟩ := txtR_ok (bad := s.bad) h.lt h.len
  rw [← hp] at l1 l2 l3 l4
  dsimp only at l1 l2 l3 l4
  obtain ⟨kb, hkb⟩ : ∃ q, q = w.heap.size := ⟨_, rfl⟩
  have hal : Below w.heap.size w (w.alloc (.cells #[.string ⟨#[]⟩, .int .i64 0, .int .i64 0] 75)) := (Below.refl _ _).alloc (Nat.le_refl _) _
  have HK := Lib.hid (blk_of_alloc w (.cells #[.string ⟨#[]⟩, .int .i64 0, .int .i64 0] 75))
  have hsW := h.bel hal
  have hte := rdtext_any w0 _ rb s.cs s.bad hsW.rd h.lt
  rw [← hp] at hte
  have Hte := Lib.hid hte
  have HsW := Lib.hid hsW
  have Hal := Lib.hid hal
  have Hpa : Hid (∀ (v : Value) (X : World), IsBs X v t → Calls Try.prog 75 #[v] X fun e w' => e = keyE t ∧ Below X.heap.size X w') := Lib.hid (fun v X hv => kparse_any v t X hv l3 l4)
  have Hlt1 := Lib.hid l1
  have Hln1 := Lib.hid l2
  have Hx : Hid (kb ≠ rb ∧ kb ≠ xb ∧ xb ≠ rb) := Lib.hid (by have := h.rlt; have := h.ne; omega)
  rw [hk]
  dsimp only
  rw [← hkb] at HK
  have Hkbq := Lib.hid hkb
  have Hxb := Lib.hid h.blk
  have Hw0 := Lib.hid h.rd.below.size
  obtain ⟨sb0, hsb0⟩ : ∃ q, q = s.sb := ⟨_, rfl⟩
  have Hsb0 := Lib.hid hsb0
  rw [← hsb0]
  obtain ⟨kq, hkq⟩ : ∃ q, q = (keyR t).2 := ⟨_, rfl⟩
  rw [← hkq]
  have Hkq := Lib.hid hkq
  obtain ⟨ko, hko⟩ : ∃ q, q = keyO t := ⟨_, rfl⟩
  have Hko := Lib.hid hko
  rw [← hko]
  have Hke : Hid (keyE t = .returned (.tuple #[.agg #[.string ko.u, .int .i64 ko.s, .int .i64 ko.k], .int .i64 (if kq then 0 else 30)])) := Lib.hid (by
    cases hg : (keyR t).2 with
    | true => rw [keyE_yes hg, hko, hkq, hg]; unfold keyO; rw [hg]; rfl
    | false => rw [keyE_no hg, hko, hkq, hg]; unfold keyO; rw [hg]; rfl)
  unfold Ky.v
  clear hp hk l1 l2 l3 l4 hal hsW hte hkb hsb0 hkq hko h
  go_enter Try.func45, Try.ntmps45
  go_upto_region 1 with fail
  rw [← Hkbq.out]
  generalize w.alloc (.cells #[.string ⟨#[]⟩, .int .i64 0, .int .i64 0] 75) = W at *
  have hbx0 := HsW.out.blk
  have c0 : W.cell? ⟨xb, 0, none⟩ = some (.pointer (some ⟨rb, 0, none⟩)) := by rw [cell_blkR hbx0]; rfl
  clear hbx0
  go_wp2_with fail
  refine Hte.out.mono ?_
  rintro e w1 ⟨v, rfl, hv, hrd1, hgr1⟩
  obtain ⟨va, vc, rfl, -, -, -⟩ := id hv
  have hpa1 := Hpa.out _ w1 (hv.below hrd1.below)
  rw [Hke.out] at hpa1
  have Hpa1 := Lib.hid hpa1
  have hs1 : IsSo w0 w1 xb rb ⟨cs1, bd1, sb0⟩ := ⟨by rw [Hsb0.out]; exact (hgr1.block xb (blk_lt HsW.out.blk) (fun e => Hx.out.2.2 (by injection e))).trans HsW.out.blk, hrd1, HsW.out.ne, Hlt1.out, Hln1.out⟩
  have hkb1 : w1.heap[kb]? = some (.cells #[.string ⟨#[]⟩, .int .i64 0, .int .i64 0] 75 (0, 0)) := (hgr1.block kb (blk_lt HK.out) (fun e => Hx.out.1 (by injection e))).trans HK.out
  have hk1 : KpS w w1 xb rb := (KpS.of_bel Hal.out).trans (KpS.of_grown hgr1)
  have Hs1 := Lib.hid hs1
  have Hkb1 := Lib.hid hkb1
  have Hk1 := Lib.hid hk1
  clear hv hrd1 hgr1 hpa1 hs1 hkb1 hk1 c0 Hte Hpa
  go_wp2_with fail
  refine Hpa1.out.mono ?_
  rintro e w2 ⟨rfl, hb2⟩
  have hA2 : Below w2.heap.size w2 (w2.alloc (.cells #[.string ko.u, .int .i64 ko.s, .int .i64 ko.k] 75)) := (Below.refl _ _).alloc (Nat.le_refl _) _
  have HP := Lib.hid (blk_of_alloc w2 (.cells #[.string ko.u, .int .i64 ko.s, .int .i64 ko.k] 75))
  have hs3 := (Hs1.out.bel hb2).bel hA2
  have hkb3 := blk_bels hA2 (blk_bels hb2 Hkb1.out)
  have hk3 := (Hk1.out.trans (KpS.of_bel hb2)).trans (KpS.of_bel hA2)
  have hP1 := (Hs1.out.bel hb2).rlt
  have hP0 : kb < w2.heap.size := blk_lt (blk_bels hb2 Hkb1.out)
  have hbx := hs3.blk
  have c1 : (w2.alloc (.cells #[.string ko.u, .int .i64 ko.s, .int .i64 ko.k] 75)).cell? ⟨xb, 1, none⟩ = some (.bool sb0) := by rw [cell_blkR hbx]; rfl
  have f1 : (w2.alloc (.cells #[.string ko.u, .int .i64 ko.s, .int .i64 ko.k] 75)).frozen? ⟨xb, 1, none⟩ = false := frozen_blkR hbx 1
  have Hs3 := Lib.hid hs3
  have Hkb3 := Lib.hid hkb3
  have Hk3 := Lib.hid hk3
  obtain ⟨Pb, hPb⟩ : ∃ q, q = w2.heap.size := ⟨_, rfl⟩
  have HPb := Lib.hid hPb
  rw [← hPb] at HP hP0 hP1
  have HPl := Lib.hid (And.intro hP0 hP1)
  clear hb2 hA2 hs3 hkb3 hk3 hP0 hP1 hbx hPb
  go_upto_region 2 with fail
  rw [← HPb.out]
  generalize w2.alloc (.cells #[.string ko.u, .int .i64 ko.s, .int .i64 ko.k] 75) = W3 at *
  clear HPb
  have hset := fun b => Hs3.out.set b
  have Hset := Lib.hid hset
  have hfin : ∀ b, (W3.setCell ⟨xb, 1, none⟩ (.bool b)).heap[Pb]? = some (.cells #[.string ko.u, .int .i64 ko.s, .int .i64 ko.k] 75 (0, 0)) ∧ (W3.setCell ⟨xb, 1, none⟩ (.bool b)).heap[kb]? = some (.cells #[.string ⟨#[]⟩, .int .i64 0, .int .i64 0] 75 (0, 0)) := fun b => ⟨(Below.heap_setCell _ ⟨xb, 1, none⟩ _ Pb (by have := HPl.out; show Pb ≠ xb; omega)).trans HP.out, (Below.heap_setCell _ ⟨xb, 1, none⟩ _ kb (by have := Hx.out; show kb ≠ xb; omega)).trans Hkb3.out⟩
  have Hfin := Lib.hid hfin
  clear hset hfin
  have hres : ∀ (X : World) (u0 : Ky), X.heap[kb]? = some (.cells #[.string u0.u, .int .i64 u0.s, .int .i64 u0.k] 75 (0, 0)) → ∀ tm : Array Value, tm.getD 2 undef = .pointer (some ⟨kb, 0, none⟩) → True := fun _ _ _ _ _ => trivial
  clear hres
  cases sb0 <;> cases kq
  case false.false =>
    go_upto_region 3 with fail
    obtain ⟨hf1, hf2⟩ := Hfin.out true
    obtain ⟨hs4, hk4⟩ := Hset.out true
    have hk5 := Hk3.out.trans hk4
    dsimp only at hs4
    generalize W3.setCell ⟨xb, 1, none⟩ (.bool true) = X at *
    have q0 : X.cell? ⟨Pb, 0, none⟩ = some (.string ko.u) := by rw [cell_blkR hf1]; rfl
    have q1 : X.cell? ⟨Pb, 1, none⟩ = some (.int .i64 ko.s) := by rw [cell_blkR hf1]; rfl
    have q2 : X.cell? ⟨Pb, 2, none⟩ = some (.int .i64 ko.k) := by rw [cell_blkR hf1]; rfl
    have x0 := frozen_blkR hf2 0
    have x1 := frozen_blkR hf2 1
    have x2 := frozen_blkR hf2 2
    have y0 : X.cell? ⟨kb, 0, none⟩ = some (.string ⟨#[]⟩) := by rw [cell_blkR hf2]; rfl
    have y1 : X.cell? ⟨kb, 1, none⟩ = some (.int .i64 0) := by rw [cell_blkR hf2]; rfl
    have y2 : X.cell? ⟨kb, 2, none⟩ = some (.int .i64 0) := by rw [cell_blkR hf2]; rfl
    have HF := Lib.hid (so_set3 hs4 hk5 Hw0.out (by rw [Hkbq.out]; exact Nat.le_refl _) Hx.out.2.1 Hx.out.1 (.string ko.u) (.int .i64 ko.s) (.int .i64 ko.k))
    have hres := set3 hf2 (.string ko.u) (.int .i64 ko.s) (.int .i64 ko.k)
    have Hres := Lib.hid hres
    clear hf1 hf2 hs4 hk4 hk5 hres
    go_wp2_with fail
    refine bodyPost_ret (v := .agg #[.string ko.u, .int .i64 ko.s, .int .i64 ko.k]) ?_ rfl ⟨rfl, HF.out.1, HF.out.2⟩
    have hres := Hres.out
    have z0 := cell_blkR hres 0
    have z1 := cell_blkR hres 1
    have z2 := cell_blkR hres 2
    simp only [List.getElem?_toArray, List.getElem?_cons_zero, List.getElem?_cons_succ] at z0 z1 z2
    generalize ((X.setCell ⟨kb, 0, none⟩ (.string ko.u)).setCell ⟨kb, 1, none⟩ (.int .i64 ko.s)).setCell ⟨kb, 2, none⟩ (.int .i64 ko.k) = F at *
    simp [results, Try.results45, go_sem, z0, z1, z2]
  case false.true =>
    go_upto_region 3 with fail
    obtain ⟨hf1, hf2⟩ := Hfin.out false
    obtain ⟨hs4, hk4⟩ := Hset.out false
    have hk5 := Hk3.out.trans hk4
    dsimp only at hs4
    generalize W3.setCell ⟨xb, 1, none⟩ (.bool false) = X at *
    have q0 : X.cell? ⟨Pb, 0, none⟩ = some (.string ko.u) := by rw [cell_blkR hf1]; rfl
    have q1 : X.cell? ⟨Pb, 1, none⟩ = some (.int .i64 ko.s) := by rw [cell_blkR hf1]; rfl
    have q2 : X.cell? ⟨Pb, 2, none⟩ = some (.int .i64 ko.k) := by rw [cell_blkR hf1]; rfl
    have x0 := frozen_blkR hf2 0
    have x1 := frozen_blkR hf2 1
    have x2 := frozen_blkR hf2 2
    have y0 : X.cell? ⟨kb, 0, none⟩ = some (.string ⟨#[]⟩) := by rw [cell_blkR hf2]; rfl
    have y1 : X.cell? ⟨kb, 1, none⟩ = some (.int .i64 0) := by rw [cell_blkR hf2]; rfl
    have y2 : X.cell? ⟨kb, 2, none⟩ = some (.int .i64 0) := by rw [cell_blkR hf2]; rfl
    have HF := Lib.hid (so_set3 hs4 hk5 Hw0.out (by rw [Hkbq.out]; exact Nat.le_refl _) Hx.out.2.1 Hx.out.1 (.string ko.u) (.int .i64 ko.s) (.int .i64 ko.k))
    have hres := set3 hf2 (.string ko.u) (.int .i64 ko.s) (.int .i64 ko.k)
    have Hres := Lib.hid hres
    clear hf1 hf2 hs4 hk4 hk5 hres
    go_wp2_with fail
    refine bodyPost_ret (v := .agg #[.string ko.u, .int .i64 ko.s, .int .i64 ko.k]) ?_ rfl ⟨rfl, HF.out.1, HF.out.2⟩
    have hres := Hres.out
    have z0 := cell_blkR hres 0
    have z1 := cell_blkR hres 1
    have z2 := cell_blkR hres 2
    simp only [List.getElem?_toArray, List.getElem?_cons_zero, List.getElem?_cons_succ] at z0 z1 z2
    generalize ((X.setCell ⟨kb, 0, none⟩ (.string ko.u)).setCell ⟨kb, 1, none⟩ (.int .i64 ko.s)).setCell ⟨kb, 2, none⟩ (.int .i64 ko.k) = F at *
    simp [results, Try.results45, go_sem, z0, z1, z2]
  case true.false =>
    go_upto_region 3 with fail
    obtain ⟨hf1, hf2⟩ := Hfin.out true
    obtain ⟨hs4, hk4⟩ := Hset.out true
    have hk5 := Hk3.out.trans hk4
    dsimp only at hs4
    generalize W3.setCell ⟨xb, 1, none⟩ (.bool true) = X at *
    have q0 : X.cell? ⟨Pb, 0, none⟩ = some (.string ko.u) := by rw [cell_blkR hf1]; rfl
    have q1 : X.cell? ⟨Pb, 1, none⟩ = some (.int .i64 ko.s) := by rw [cell_blkR hf1]; rfl
    have q2 : X.cell? ⟨Pb, 2, none⟩ = some (.int .i64 ko.k) := by rw [cell_blkR hf1]; rfl
    have x0 := frozen_blkR hf2 0
    have x1 := frozen_blkR hf2 1
    have x2 := frozen_blkR hf2 2
    have y0 : X.cell? ⟨kb, 0, none⟩ = some (.string ⟨#[]⟩) := by rw [cell_blkR hf2]; rfl
    have y1 : X.cell? ⟨kb, 1, none⟩ = some (.int .i64 0) := by rw [cell_blkR hf2]; rfl
    have y2 : X.cell? ⟨kb, 2, none⟩ = some (.int .i64 0) := by rw [cell_blkR hf2]; rfl
    have HF := Lib.hid (so_set3 hs4 hk5 Hw0.out (by rw [Hkbq.out]; exact Nat.le_refl _) Hx.out.2.1 Hx.out.1 (.string ko.u) (.int .i64 ko.s) (.int .i64 ko.k))
    have hres := set3 hf2 (.string ko.u) (.int .i64 ko.s) (.int .i64 ko.k)
    have Hres := Lib.hid hres
    clear hf1 hf2 hs4 hk4 hk5 hres
    go_wp2_with fail
    refine bodyPost_ret (v := .agg #[.string ko.u, .int .i64 ko.s, .int .i64 ko.k]) ?_ rfl ⟨rfl, HF.out.1, HF.out.2⟩
    have hres := Hres.out
    have z0 := cell_blkR hres 0
    have z1 := cell_blkR hres 1
    have z2 := cell_blkR hres 2
    simp only [List.getElem?_toArray, List.getElem?_cons_zero, List.getElem?_cons_succ] at z0 z1 z2
    generalize ((X.setCell ⟨kb, 0, none⟩ (.string ko.u)).setCell ⟨kb, 1, none⟩ (.int .i64 ko.s)).setCell ⟨kb, 2, none⟩ (.int .i64 ko.k) = F at *
    simp [results, Try.results45, go_sem, z0, z1, z2]
  case true.true =>
    go_upto_region 3 with fail
    obtain ⟨hf1, hf2⟩ := Hfin.out true
    obtain ⟨hs4, hk4⟩ := Hset.out true
    have hk5 := Hk3.out.trans hk4
    dsimp only at hs4
    generalize W3.setCell ⟨xb, 1, none⟩ (.bool true) = X at *
    have q0 : X.cell? ⟨Pb, 0, none⟩ = some (.string ko.u) := by rw [cell_blkR hf1]; rfl
    have q1 : X.cell? ⟨Pb, 1, none⟩ = some (.int .i64 ko.s) := by rw [cell_blkR hf1]; rfl
    have q2 : X.cell? ⟨Pb, 2, none⟩ = some (.int .i64 ko.k) := by rw [cell_blkR hf1]; rfl
    have x0 := frozen_blkR hf2 0
    have x1 := frozen_blkR hf2 1
    have x2 := frozen_blkR hf2 2
    have y0 : X.cell? ⟨kb, 0, none⟩ = some (.string ⟨#[]⟩) := by rw [cell_blkR hf2]; rfl
    have y1 : X.cell? ⟨kb, 1, none⟩ = some (.int .i64 0) := by rw [cell_blkR hf2]; rfl
    have y2 : X.cell? ⟨kb, 2, none⟩ = some (.int .i64 0) := by rw [cell_blkR hf2]; rfl
    have HF := Lib.hid (so_set3 hs4 hk5 Hw0.out (by rw [Hkbq.out]; exact Nat.le_refl _) Hx.out.2.1 Hx.out.1 (.string ko.u) (.int .i64 ko.s) (.int .i64 ko.k))
    have hres := set3 hf2 (.string ko.u) (.int .i64 ko.s) (.int .i64 ko.k)
    have Hres := Lib.hid hres
    clear hf1 hf2 hs4 hk4 hk5 hres
    go_wp2_with fail
    refine bodyPost_ret (v := .agg #[.string ko.u, .int .i64 ko.s, .int .i64 ko.k]) ?_ rfl ⟨rfl, HF.out.1, HF.out.2⟩
    have hres := Hres.out
    have z0 := cell_blkR hres 0
    have z1 := cell_blkR hres 1
    have z2 := cell_blkR hres 2
    simp only [List.getElem?_toArray, List.getElem?_cons_zero, List.getElem?_cons_succ] at z0 z1 z2
    generalize ((X.setCell ⟨kb, 0, none⟩ (.string ko.u)).setCell ⟨kb, 1, none⟩ (.int .i64 ko.s)).setCell ⟨kb, 2, none⟩ (.int .i64 ko.k) = F at *
    simp [results, Try.results45, go_sem, z0, z1, z2]
end Go.Proofs.Ythjjelomlgmllaa.Tithe
