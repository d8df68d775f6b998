/- A writer's Byte, Raw, Text; the document's Number and Text: walked (printed by mkmanwrite.py). -/
import Derived.Test.YthjjelomlgmllaaManRead
import Derived.Test.YthjjelomlgmllaaRowEdit
import Derived.Shelf.RegionOpen
import Derived.Deep.Cut
namespace Go.Proofs.Ythjjelomlgmllaa.Tithe
open Go.RowKit Go.Sort Go.Shelf
set_option linter.unusedVariables false
set_option linter.unusedSimpArgs false
set_option maxRecDepth 100000
set_option linter.unusedVariables false
set_option linter.unusedSimpArgs false
set_option maxRecDepth 100000
/-- append of bytes, at run level: the new row lies in the old one's block, or in a new one -/
theorem app_bs (W : World) (base : Nat) (v vx : Value) (l m : List Nat) (h : W.ownsRow base 5 1 v l.length (flat byteC l)) (hx : IsBs W vx m) (hl : l.length + m.length ≤ 100000000) (hb : base ≤ W.heap.size) :
    ∃ v' w2, (Builtin.append_ #[34, 34] 34 #[v, vx]).run Try.prog W = .ok v' w2 ∧ w2.ownsRow base 5 1 v' (l ++ m).length (flat byteC (l ++ m)) ∧ W.grownBy w2 v.ownBlock ∧ (∀ s, s < W.heap.size → v.ownBlock ≠ some s → v'.ownBlock ≠ some s) := by
  obtain ⟨i0, hi0, hz0, hz1, hz2⟩ := info_partsR u8Info
  obtain ⟨ad, c, rfl, h2, h3, h4⟩ := id hx
  rcases Nat.eq_zero_or_pos m.length with q | q
  · obtain rfl : m = [] := List.eq_nil_of_length_eq_zero q
    cases ad with
    | none => exact ⟨v, W, run_append_none base 34 34 5 i0 1 Try.underlying34 hi0 v l.length _ h c, by rw [List.append_nil]; exact h, World.grownBy.refl _ _, fun s _ hs => hs⟩
    | some ad =>
      obtain ⟨v', w2, hrun, r1, r2, -, r3⟩ := run_append_own_at (P := Try.prog) W base 34 34 5 i0 (.int .u8 0) 1 1 Try.underlying34 hi0 hz0 hz1 hz2 rfl (by decide) v l.length (flat byteC l) h ad 0 c [] rfl (fun j u hj => by simp at hj) (fun u hu => by simp at hu) (by unfold maxLen; omega) (by omega) hb
      refine ⟨v', w2, hrun, by rw [List.append_nil]; simpa using r1, r2, fun s hs hne e => ?_⟩
      rcases r3 with r3 | r3
      · rw [r3] at e; exact hne e
      · rw [r3] at e; injection e with e; omega
  · cases ad with
    | none => obtain ⟨_, _, e, _⟩ := h4 (by rintro rfl; simp at q); cases e
    | some ad =>
      obtain ⟨v', w2, hrun, r1, r2, -, r3⟩ := run_append_own_at (P := Try.prog) W base 34 34 5 i0 (.int .u8 0) 1 1 Try.underlying34 hi0 hz0 hz1 hz2 rfl (by decide) v l.length (flat byteC l) h ad m.length c (flat byteC m) (flat_length byteC_len m) (fun j u hj => by
        have hpos : m ≠ [] := by rintro rfl; simp [flat] at hj
        obtain ⟨b, off, e, -⟩ := h4 hpos
        injection e with e
        subst e
        exact hx.news byteC_len j u hj) (byteC_one m) (by unfold maxLen; omega) (by omega) hb
      refine ⟨v', w2, hrun, by rw [List.length_append, flat_append]; exact r1, r2, fun s hs hne e => ?_⟩
      rcases r3 with r3 | r3
      · rw [r3] at e; exact hne e
      · rw [r3] at e; injection e with e; omega
/-- block s is not the writer's row -/
def NotOwn (w : World) (wb s : Nat) : Prop := ∀ v b, w.heap[wb]? = some (.cells #[v, .bool b] 93 (0, 0)) → v.ownBlock ≠ some s
/-- other blocks are as they were, and are not the writer's row -/
def FarW (w w' : World) (wb : Nat) : Prop := ∀ (s : Nat) (x : Obj), w.heap[s]? = some x → s ≠ wb → NotOwn w wb s → w'.heap[s]? = some x ∧ NotOwn w' wb s
theorem FarW.refl (w : World) (wb : Nat) : FarW w w wb := fun s x hx _ hn => ⟨hx, hn⟩
theorem FarW.trans {w w1 w2 : World} {wb : Nat} (h : FarW w w1 wb) (h2 : FarW w1 w2 wb) : FarW w w2 wb := fun s x hx hne hn => h2 s x (h s x hx hne hn).1 hne (h s x hx hne hn).2
theorem FarW.alloc {w : World} {wb : Nat} (hlt : wb < w.heap.size) (o : Obj) : FarW w (w.alloc o) wb := fun s x hx hne hn => ⟨blk_old hx o, fun v b hv => hn v b ((Below.heap_alloc w o wb hlt).symm.trans hv)⟩
theorem wr_step (W : World) (base wb : Nat) (bs m : List Nat) (vx : Value) (h : IsWr W base wb bs) (hx : IsBs W vx m) (hl : bs.length + m.length ≤ 100000000) :
    ∃ (a : Option Addr) (c : Nat) (a' : Option Addr) (n' c' : Nat) (w2 : World), W.heap[wb]? = some (.cells #[.slice a bs.length c, .bool false] 93 (0, 0)) ∧ (Builtin.append_ #[34, 34] 34 #[.slice a bs.length c, vx]).run Try.prog W = .ok (.slice a' n' c') w2 ∧
      w2.heap[wb]? = some (.cells #[.slice a bs.length c, .bool false] 93 (0, 0)) ∧ Hid (IsWr (w2.setCell ⟨wb, 0, none⟩ (.slice a' n' c')) base wb (bs ++ m) ∧ Below wb W (w2.setCell ⟨wb, 0, none⟩ (.slice a' n' c')) ∧ FarW W (w2.setCell ⟨wb, 0, none⟩ (.slice a' n' c')) wb) := by
  obtain ⟨v, hblk, hown⟩ := h.ex
  have hlt := h.lt
  have hle := h.le
  obtain ⟨v', w2, hrun, h2, hg, hlies⟩ := app_bs W base v vx bs m hown hx hl hle
  have hb2 : w2.heap[wb]? = some (.cells #[v, .bool false] 93 (0, 0)) := (hg.block wb (by omega) (fun e => by have := (hown.lt _ e.symm).1; omega)).trans hblk
  obtain ⟨a, c, rfl⟩ := own_slice hown
  obtain ⟨n', hn'⟩ : ∃ n', n' = (bs ++ m).length := ⟨_, rfl⟩
  have h2' := h2
  rw [← hn'] at h2'
  obtain ⟨a', c', rfl⟩ := own_slice h2'
  refine ⟨a, c, a', n', c', w2, hblk, hrun, hb2, Lib.hid ⟨⟨⟨_, (blk_setCellR hb2).trans rfl, ?_⟩, hlt, ?_⟩, ?_, ?_⟩⟩
  · refine ⟨h2.1, ?_⟩
    rcases h2.2 with h0 | ⟨g, cap, cur, hv, hb, hh, r⟩
    · exact .inl h0
    · exact .inr ⟨g, cap, cur, hv, hb, (Below.heap_setCell w2 ⟨wb, 0, none⟩ _ g (fun e => by have e2 : g = wb := e; omega)).trans hh, r⟩
  · have := hg.size
    have h3 : (w2.setCell ⟨wb, 0, none⟩ (.slice a' n' c')).heap.size = w2.heap.size := by simp [World.setCell]
    rw [h3]; omega
  · exact ((Below.refl wb W).grown hg (by omega) (fun g e => by have := (hown.lt g e).1; omega)).setCell (p := ⟨wb, 0, none⟩) (Nat.le_refl _) _
  · intro s x hs hne hno
    have hown2 := hno _ _ hblk
    have hsl := blk_lt hs
    refine ⟨(Below.heap_setCell w2 ⟨wb, 0, none⟩ _ s hne).trans ((hg.block s hsl (fun e => hown2 e.symm)).trans hs), fun v b hv => ?_⟩
    rw [(blk_setCellR hb2)] at hv
    injection hv with hv
    injection hv with hv
    have e0 : v = .slice a' n' c' := by
      have := congrArg (fun (q : Array Value) => q[0]?) hv
      simpa using this.symm
    rw [e0]
    exact hlies s hsl hown2
attribute [local go_sem] Oper.semAt_some
theorem wraw_any (w : World) (base wb : Nat) (bs m : List Nat) (vx : Value) (h : IsWr w base wb bs) (hx : IsBs w vx m) (hl : bs.length + m.length ≤ 100000000) :
    Calls Try.prog 84 #[.pointer (some ⟨wb, 0, none⟩), vx] w fun e w' => e = .returned (.pointer (some ⟨wb, 0, none⟩)) ∧ IsWr w' base wb (bs ++ m) ∧ Below wb w w' ∧ FarW w w' wb := by
  obtain ⟨a, c, a', n', c', w2, hblk, hrun, hb2, hfin⟩ := wr_step w base wb bs m vx h hx hl
  have c0 : w.cell? ⟨wb, 0, none⟩ = some (.slice a bs.length c) := by rw [cell_blkR hblk]; rfl
  have c1 : w2.cell? ⟨wb, 0, none⟩ = some (.slice a bs.length c) := by rw [cell_blkR hb2]; rfl
  have f1 : w2.frozen? ⟨wb, 0, none⟩ = false := frozen_blkR hb2 0
  clear hblk hb2 h hx
  go_enter Try.func84, Try.ntmps84
  go_wp2_with (at_builtin; first | (refine wpList_val rfl _ _ (run_append_op (.tmp 9) (.tmp 10) 34 34 rfl rfl rfl hrun) ?_) | (refine wpList_val rfl _ _ (run_append_op (.tmp 9) (.tmp 10) 34 34 rfl (by simp) (by simp) hrun) ?_))
  go_ret
  exact ⟨rfl, hfin.out⟩
/-- one byte more, by way of a new block -/
theorem wr_byte (w : World) (base wb : Nat) (bs : List Nat) (c : Nat) (h : IsWr w base wb bs) (hl : bs.length ≤ 1000000) :
    ∃ (a : Option Addr) (cc : Nat) (a' : Option Addr) (n' c' : Nat) (w2 : World), w.cell? ⟨wb, 0, none⟩ = some (.slice a bs.length cc) ∧ (Builtin.append_ #[34, 34] 34 #[.slice a bs.length cc, .slice (some ⟨w.heap.size, 0, none⟩) 1 1]).run Try.prog (w.alloc (.cells #[.int .u8 c] 5)) = .ok (.slice a' n' c') w2 ∧
      w2.cell? ⟨wb, 0, none⟩ = some (.slice a bs.length cc) ∧ w2.frozen? ⟨wb, 0, none⟩ = false ∧ Hid (IsWr (w2.setCell ⟨wb, 0, none⟩ (.slice a' n' c')) base wb (bs ++ [c]) ∧ Below wb w (w2.setCell ⟨wb, 0, none⟩ (.slice a' n' c')) ∧ FarW w (w2.setCell ⟨wb, 0, none⟩ (.slice a' n' c')) wb) := by
  obtain ⟨v, hblk, hown⟩ := h.ex
  have hal : Below w.heap.size w (w.alloc (.cells #[.int .u8 c] 5)) := (Below.refl _ _).alloc (Nat.le_refl _) _
  have hw1 : IsWr (w.alloc (.cells #[.int .u8 c] 5)) base wb bs := ⟨⟨v, blk_old hblk _, own_below hown hal⟩, h.lt, Nat.le_trans h.le hal.size⟩
  have hx : IsBs (w.alloc (.cells #[.int .u8 c] 5)) (.slice (some ⟨w.heap.size, 0, none⟩) 1 1) [c] := isSl_lit byteC_len [c] #[.int .u8 c] 5 w.heap.size rfl rfl 1 rfl (by unfold maxLen; omega)
  obtain ⟨a, cc, a', n', c', w2, hblk1, hrun, hb2, hfin⟩ := wr_step _ base wb bs [c] _ hw1 hx (by simp; omega)
  have hwlt : wb < w.heap.size := Nat.lt_of_lt_of_le h.lt h.le
  have e : v = .slice a bs.length cc := by
    have := (blk_old hblk (.cells #[.int .u8 c] 5)).symm.trans hblk1
    injection this with this
    injection this with this
    have h0 : (some v : Option Value) = some (.slice a bs.length cc) := congrArg (fun (q : Array Value) => q[0]?) this
    injection h0
  subst e
  exact ⟨a, cc, a', n', c', w2, by rw [cell_blkR hblk]; rfl, hrun, by rw [cell_blkR hb2]; rfl, frozen_blkR hb2 0, Lib.hid ⟨hfin.out.1, ((Below.refl wb w).alloc (Nat.le_of_lt hwlt) _).trans hfin.out.2.1, (FarW.alloc hwlt _).trans hfin.out.2.2⟩⟩
set_option maxHeartbeats 1600000 in
theorem wnum_any (w : World) (base wb : Nat) (bs : List Nat) (n : Nat) (h : IsWr w base wb bs) (hn : n < 9223372036854775808) (hl : bs.length ≤ 100000) :
    Calls Try.prog 30 #[.pointer (some ⟨wb, 0, none⟩), .int .i64 n] w fun e w' => e = .returned (.pointer (some ⟨wb, 0, none⟩)) ∧ IsWr w' base wb (bs ++ encN n) ∧ Below wb w w' ∧ FarW w w' wb := by
  have H := Lib.hid h
  have hn0 : ¬ ((n : Int) < 0) := by omega
  have h9 : Hid (n < 2 ^ (7 * 9)) := Lib.hid (show n < 2 ^ (7 * 9) from hn)
  clear h
  go_enter Try.func30, Try.ntmps30
  go_wp2
  go_loopw [1] (fun nv wr => ∃ (f m : Nat) (dn : List Nat), f ≤ 9 ∧ nv = .int .i64 m ∧ m < 2 ^ (7 * f) ∧ encN n = dn ++ encF f m ∧ dn.length + f = 9 ∧ IsWr wr base wb (bs ++ dn) ∧ Below wb w wr ∧ FarW w wr wb) (fun nv _ => (intOf nv).toNat)
  case atStart => exact ⟨9, n, [], by omega, rfl, h9.out, rfl, rfl, by rw [List.append_nil]; exact H.out, Below.refl _ _, FarW.refl _ _⟩
  case round =>
    obtain ⟨wo, rfl⟩ : ∃ wo : World, wo = wr := ⟨_, rfl⟩
    obtain ⟨f, m, dn, hf, rfl, hm, henc, hdn, hwr, hb, hfw⟩ := hrel
    have Henc := Lib.hid henc
    have Hm := Lib.hid hm
    have Hb := Lib.hid hb
    have Hfw := Lib.hid hfw
    have Hwr := Lib.hid hwr
    clear henc hm hb hwr hfw
    by_cases h127 : 127 < m
    · obtain ⟨y, hy⟩ : ∃ y : Nat, y = m % 128 + 128 := ⟨_, rfl⟩
      have hor : bits BinOp.or IntKind.u8 ((m : Int) % 256) 128 = (y : Int) := by
        rw [hy, ← or128 m]; congr 1
      have hq : (m : Int) / 2 ^ 7 = ((m / 128 : Nat) : Int) := by omega
      obtain ⟨q, hqm⟩ : ∃ q, q = m / 128 := ⟨_, rfl⟩
      rw [← hqm] at hq
      have Hy := Lib.hid hy
      have Hqm := Lib.hid hqm
      clear hy hqm
      obtain ⟨a, cc, a', n', c', w2, c0, hrun, c1, f1, hfin⟩ := wr_byte wo base wb (bs ++ dn) y Hwr.out (by rw [List.length_append]; omega)
      generalize (bs ++ dn).length = nl at *
      obtain ⟨f2, rfl⟩ : ∃ f2, f = f2 + 1 := by
        rcases Nat.eq_zero_or_pos f with z | z
        · exfalso
          have := Hm.out
          rw [z] at this
          simp at this
          omega
        · exact ⟨f - 1, by omega⟩
      have henc2 : encN n = (dn ++ [y]) ++ encF f2 (m / 128) := by
        rw [Henc.out, List.append_assoc]
        congr 1
        show (if 127 < m then (m % 128 + 128) :: encF f2 (m / 128) else [m]) = _
        rw [if_pos h127, ← Hy.out]; rfl
      have hm2 : m / 128 < 2 ^ (7 * f2) := by
        have h1 := Hm.out
        have e : 2 ^ (7 * (f2 + 1)) = 2 ^ (7 * f2) * 128 := by rw [Nat.mul_add, Nat.mul_one, Nat.pow_add]
        rw [e] at h1
        exact Nat.div_lt_of_lt_mul (by rw [Nat.mul_comm]; exact h1)
      rw [← Hqm.out] at henc2 hm2
      have hqlt : q < m := by rw [Hqm.out]; omega
      have Henc2 := Lib.hid henc2
      have Hm2 := Lib.hid hm2
      clear henc2 hm2
      go_wp2_with (at_builtin; first | (refine wpList_val rfl _ _ (run_append_op (.tmp 17) (.tmp 21) 34 34 rfl rfl rfl hrun) ?_) | (refine wpList_val rfl _ _ (run_append_op (.tmp 17) (.tmp 21) 34 34 rfl (by simp) (by simp) hrun) ?_))
      go_roundw
      case rel => exact ⟨f2, q, dn ++ [y], by omega, by have := Hqm.out; congr 1, Hm2.out, Henc2.out, by rw [List.length_append]; simp; omega, by rw [← List.append_assoc]; exact hfin.out.1, Hb.out.trans hfin.out.2.1, Hfw.out.trans hfin.out.2.2⟩
      case measure => simp [intOf]; omega
    · have hm127 : ¬ (127 : Int) < (m : Int) := by omega
      have hmm : (m : Int) % 256 = (m : Int) := by omega
      obtain ⟨a, cc, a', n', c', w2, c0, hrun, c1, f1, hfin⟩ := wr_byte wo base wb (bs ++ dn) m Hwr.out (by rw [List.length_append]; omega)
      generalize (bs ++ dn).length = nl at *
      have henc2 : encN n = dn ++ [m] := by
        rw [Henc.out]
        congr 1
        cases f with
        | zero => rfl
        | succ f2 =>
          show (if 127 < m then (m % 128 + 128) :: encF f2 (m / 128) else [m]) = _
          rw [if_neg h127]
      have Henc2 := Lib.hid henc2
      clear henc2
      go_wp2_with (at_builtin; first | (refine wpList_val rfl _ _ (run_append_op (.tmp 31) (.tmp 34) 34 34 rfl rfl rfl hrun) ?_) | (refine wpList_val rfl _ _ (run_append_op (.tmp 31) (.tmp 34) 34 34 rfl (by simp) (by simp) hrun) ?_))
      go_ret
      refine ⟨rfl, ?_, Hb.out.trans hfin.out.2.1, Hfw.out.trans hfin.out.2.2⟩
      rw [Henc2.out, ← List.append_assoc]
      exact hfin.out.1
theorem IsSl.of_far {α : Type} {enc : α → List Value} {sz : Nat} {w w' : World} {a : Option Addr} {n c : Nat} {l : List α} (h : IsSl enc sz w (.slice a n c) l) (hb : ∀ b off, a = some ⟨b, off, none⟩ → l ≠ [] → w'.heap[b]? = w.heap[b]?) : IsSl enc sz w' (.slice a n c) l := by
  obtain ⟨a', c', e, h2, h3, h4⟩ := h
  injection e with e1 e2 e3
  subst e1 e2 e3
  refine ⟨a, c, rfl, h2, h3, fun hne => ?_⟩
  obtain ⟨b, off, ha, hc⟩ := h4 hne
  refine ⟨b, off, ha, fun i x hx j y hy => ?_⟩
  have h0 := hc i x hx j y hy
  simp only [World.cell?] at h0 ⊢
  rw [hb b off ha hne]
  exact h0
set_option maxHeartbeats 1600000 in
/-- Text: the bytes lie in a block that is neither the writer's nor its row -/
theorem wtext_any (w : World) (base wb s : Nat) (bs m : List Nat) (n c : Nat) (h : IsWr w base wb bs) (hx : IsBs w (.slice (some ⟨s, 0, none⟩) n c) m) (hs : s < w.heap.size) (hne : s ≠ wb) (hno : NotOwn w wb s) (hl : bs.length ≤ 100000) (hm : m.length ≤ 1000000) :
    Calls Try.prog 65 #[.pointer (some ⟨wb, 0, none⟩), .slice (some ⟨s, 0, none⟩) n c] w fun e w' => e = .returned (.pointer (some ⟨wb, 0, none⟩)) ∧ IsWr w' base wb (bs ++ (encN m.length ++ m)) ∧ Below wb w w' ∧ FarW w w' wb := by
  have hnl : n = m.length := hx.at.1
  have H := Lib.hid h
  have Hx := Lib.hid hx
  have hnum := wnum_any w base wb bs n h (by omega) hl
  have Hnum := Lib.hid hnum
  have hel : (encN n).length ≤ 10 := by
    have : ∀ f k, (encF f k).length ≤ f + 1 := by
      intro f
      induction f with
      | zero => intro k; show ([k] : List Nat).length ≤ 1; simp
      | succ f ih =>
        intro k
        show (if 127 < k then (k % 128 + 128) :: encF f (k / 128) else [k]).length ≤ f + 1 + 1
        split
        · rw [List.length_cons]; have := ih (k / 128); omega
        · simp
    exact this 9 n
  have Hno := Lib.hid hno
  have hm1 : n ≤ 1000000 := by omega
  have Hnl := Lib.hid hnl
  clear h hx hnum hno hnl hm
  go_enter Try.func65, Try.ntmps65
  go_wp2_with fail
  refine Hnum.out.mono ?_
  rintro e w2 ⟨rfl, hw2, hb2, hf2⟩
  obtain ⟨x, hx⟩ : ∃ x, w.heap[s]? = some x := ⟨_, Array.getElem?_eq_getElem hs⟩
  have hs2 := hf2 s x hx hne Hno.out
  have hraw := wraw_any w2 base wb _ m _ hw2 (IsSl.of_far Hx.out (fun b off e _ => by cases e; rw [hs2.1, hx])) (by rw [List.length_append, ← Hnl.out]; omega)
  have Hraw := Lib.hid hraw
  have Hb2 := Lib.hid hb2
  have Hf2 := Lib.hid hf2
  clear hw2 hb2 hf2 hraw hs2 hx
  go_wp2_with fail
  refine Hraw.out.mono ?_
  rintro e w3 ⟨rfl, hw3, hb3, hf3⟩
  have Hw3 := Lib.hid hw3
  have Hb3 := Lib.hid (Hb2.out.trans hb3)
  have Hf3 := Lib.hid (Hf2.out.trans hf3)
  clear hw3 hb3 hf3
  go_wp2_with fail
  go_ret
  exact ⟨rfl, by rw [← List.append_assoc, ← Hnl.out]; exact Hw3.out, Hb3.out, Hf3.out⟩
theorem encN_le (n : Nat) : (encN n).length ≤ 10 := by
  have : ∀ f k, (encF f k).length ≤ f + 1 := by
    intro f
    induction f with
    | zero => intro k; show ([k] : List Nat).length ≤ 1; simp
    | succ f ih =>
      intro k
      show (if 127 < k then (k % 128 + 128) :: encF f (k / 128) else [k]).length ≤ f + 1 + 1
      split
      · rw [List.length_cons]; have := ih (k / 128); omega
      · simp
  exact this 9 n
attribute [local go_sem] Oper.semAt_some
/-- bytes of a call's own -/
abbrev OwnBs (W : World) (base : Nat) (v : Value) (l : List Nat) : Prop := W.ownsRow base 5 1 v l.length (flat byteC l)
/-- one byte more, by way of a new block -/
theorem push_bs (W : World) (base : Nat) (v : Value) (l : List Nat) (c : Nat) (h : OwnBs W base v l) (hl : l.length ≤ 1000000) (hb : base ≤ W.heap.size) :
    ∃ (a' : Option Addr) (n' c' : Nat) (w2 : World), (Builtin.append_ #[34, 34] 34 #[v, .slice (some ⟨W.heap.size, 0, none⟩) 1 1]).run Try.prog (W.alloc (.cells #[.int .u8 c] 5)) = .ok (.slice a' n' c') w2 ∧ OwnBs w2 base (.slice a' n' c') (l ++ [c]) ∧ Below base W w2 := by
  have hal : Below W.heap.size W (W.alloc (.cells #[.int .u8 c] 5)) := (Below.refl _ _).alloc (Nat.le_refl _) _
  have hx : IsBs (W.alloc (.cells #[.int .u8 c] 5)) (.slice (some ⟨W.heap.size, 0, none⟩) 1 1) [c] := isSl_lit byteC_len [c] #[.int .u8 c] 5 W.heap.size rfl rfl 1 rfl (by unfold maxLen; omega)
  have ho := own_below h hal
  obtain ⟨v', w2, hrun, h2, hg, -⟩ := app_bs _ base v _ l [c] ho hx (by simp; omega) (Nat.le_trans hb hal.size)
  obtain ⟨n', hn'⟩ : ∃ n', n' = (l ++ [c]).length := ⟨_, rfl⟩
  have h2' := h2
  rw [← hn'] at h2'
  obtain ⟨a', c', rfl⟩ := own_slice h2'
  exact ⟨a', n', c', w2, hrun, h2, (hal.mono hb).trans ((Below.refl base _).grown hg (Nat.le_trans hb hal.size) (fun g e => (ho.lt g e).1))⟩
set_option maxHeartbeats 1600000 in
theorem rnum_any (n : Nat) (w : World) (hn : n < 9223372036854775808) :
    Calls Try.prog 20 #[.int .i64 n] w fun e w' => ∃ v', e = .returned v' ∧ OwnBs w' w.heap.size v' (encN n) ∧ Below w.heap.size w w' := by
  have h9 : Hid (n < 2 ^ (7 * 9)) := Lib.hid (show n < 2 ^ (7 * 9) from hn)
  go_enter Try.func20, Try.ntmps20
  go_wp2
  go_loopw [0, 3] (fun nv ov wr => ∃ (f m : Nat) (dn : List Nat), f ≤ 9 ∧ nv = .int .i64 m ∧ m < 2 ^ (7 * f) ∧ encN n = dn ++ encF f m ∧ dn.length + f = 9 ∧ OwnBs wr w.heap.size ov dn ∧ Below w.heap.size w wr) (fun nv _ _ => (intOf nv).toNat)
  case atStart => exact ⟨9, n, [], by omega, rfl, h9.out, rfl, rfl, World.ownsRow_nil _ _ _ _, Below.refl _ _⟩
  case round =>
    obtain ⟨wo, rfl⟩ : ∃ wo : World, wo = wr := ⟨_, rfl⟩
    obtain ⟨f, m, dn, hf, rfl, hm, henc, hdn, hown, hb⟩ := hrel
    have Henc := Lib.hid henc
    have Hm := Lib.hid hm
    have Hb := Lib.hid hb
    have Hown := Lib.hid hown
    obtain ⟨oa, oc, rfl⟩ := own_slice hown
    clear henc hm hb hown
    by_cases h127 : 127 < m
    · obtain ⟨y, hy⟩ : ∃ y : Nat, y = m % 128 + 128 := ⟨_, rfl⟩
      obtain ⟨q, hqm⟩ : ∃ q, q = m / 128 := ⟨_, rfl⟩
      have hy1 : (m : Int) % 128 + 128 = (y : Int) := by omega
      have hq : (m : Int) / 128 = (q : Int) := by omega
      obtain ⟨f2, rfl⟩ : ∃ f2, f = f2 + 1 := by
        rcases Nat.eq_zero_or_pos f with z | z
        · exfalso
          have := Hm.out
          rw [z] at this
          simp at this
          omega
        · exact ⟨f - 1, by omega⟩
      have henc2 : encN n = (dn ++ [y]) ++ encF f2 q := by
        rw [Henc.out, List.append_assoc]
        congr 1
        show (if 127 < m then (m % 128 + 128) :: encF f2 (m / 128) else [m]) = _
        rw [if_pos h127, ← hy, ← hqm]; rfl
      have hm2 : q < 2 ^ (7 * f2) := by
        have h1 := Hm.out
        have e : 2 ^ (7 * (f2 + 1)) = 2 ^ (7 * f2) * 128 := by rw [Nat.mul_add, Nat.mul_one, Nat.pow_add]
        rw [e] at h1
        rw [hqm]
        exact Nat.div_lt_of_lt_mul (by rw [Nat.mul_comm]; exact h1)
      have hqlt : q < m := by omega
      obtain ⟨a', n', c', w2, hrun, hown2, hb2⟩ := push_bs wo w.heap.size _ dn y Hown.out (by omega) Hb.out.size
      have Hown2 := Lib.hid hown2
      have Hb2 := Lib.hid (Hb.out.trans hb2)
      have Henc2 := Lib.hid henc2
      have Hm2 := Lib.hid hm2
      have Hrl : Hid ((dn ++ [y]).length + f2 = 9) := Lib.hid (by rw [List.length_append]; simp; omega)
      have hq56 : q < 2 ^ 56 := Nat.lt_of_lt_of_le hm2 (Nat.pow_le_pow_right (by omega) (by omega))
      have hqw : IntKind.i64.wrap (q : Int) = (q : Int) := IntWalk.i64_in _ (by omega)
      generalize dn.length = dl at *
      clear hown2 hb2 henc2 hm2 hy hqm hdn hq56
      go_wp2_with (at_builtin; first | (refine wpList_val rfl _ _ (run_append_op (.tmp 6) (.tmp 11) 34 34 rfl rfl rfl hrun) ?_) | (refine wpList_val rfl _ _ (run_append_op (.tmp 6) (.tmp 11) 34 34 rfl (by simp) (by simp) hrun) ?_))
      go_roundw
      case rel => exact ⟨f2, q, dn ++ [y], by omega, rfl, Hm2.out, Henc2.out, Hrl.out, Hown2.out, Hb2.out⟩
      case measure => simp [intOf]; omega
    · have hm127 : ¬ (127 : Int) < (m : Int) := by omega
      have hmm : (m : Int) % 256 = (m : Int) := by omega
      have henc2 : encN n = dn ++ [m] := by
        rw [Henc.out]
        congr 1
        cases f with
        | zero => rfl
        | succ f2 =>
          show (if 127 < m then (m % 128 + 128) :: encF f2 (m / 128) else [m]) = _
          rw [if_neg h127]
      obtain ⟨a', n', c', w2, hrun, hown2, hb2⟩ := push_bs wo w.heap.size _ dn m Hown.out (by omega) Hb.out.size
      have Hown2 := Lib.hid hown2
      have Hb2 := Lib.hid (Hb.out.trans hb2)
      have Henc2 := Lib.hid henc2
      generalize dn.length = dl at *
      clear hown2 hb2 henc2
      go_wp2_with (at_builtin; first | (refine wpList_val rfl _ _ (run_append_op (.tmp 15) (.tmp 18) 34 34 rfl rfl rfl hrun) ?_) | (refine wpList_val rfl _ _ (run_append_op (.tmp 15) (.tmp 18) 34 34 rfl (by simp) (by simp) hrun) ?_))
      go_ret
      exact ⟨_, rfl, by rw [Henc2.out]; exact Hown2.out, Hb2.out⟩
set_option maxHeartbeats 1600000 in
theorem rtext_any (vx : Value) (m : List Nat) (w : World) (hx : IsBs w vx m) (hm : m.length ≤ 1000000) :
    Calls Try.prog 39 #[vx] w fun e w' => ∃ v', e = .returned v' ∧ OwnBs w' w.heap.size v' (encN m.length ++ m) ∧ Below w.heap.size w w' := by
  obtain ⟨a, c, rfl, -, -, -⟩ := id hx
  have Hx := Lib.hid hx
  obtain ⟨n, hn⟩ : ∃ n, n = m.length := ⟨_, rfl⟩
  rw [← hn] at Hx hm ⊢
  have Hn := Lib.hid hn
  have Hnum := Lib.hid (rnum_any n w (by omega))
  clear hx hn
  go_enter Try.func39, Try.ntmps39
  go_wp2_with fail
  refine Hnum.out.mono ?_
  rintro e w2 ⟨v2, rfl, hown, hb2⟩
  have hel := encN_le n
  obtain ⟨v3, w3, hrun, hown3, hg3, -⟩ := app_bs w2 w.heap.size v2 (.slice a n c) (encN n) m hown (Hx.out.below hb2) (by rw [← Hn.out]; omega) hb2.size
  have Hb3 := Lib.hid (hb2.trans ((Below.refl _ _).grown hg3 hb2.size (fun g e => (hown.lt g e).1)))
  have Hown3 := Lib.hid hown3
  obtain ⟨n2, hn2⟩ : ∃ n2, n2 = (encN n).length := ⟨_, rfl⟩
  rw [OwnBs, ← hn2] at hown
  obtain ⟨a2, c2, rfl⟩ := own_slice hown
  obtain ⟨n3, hn3⟩ : ∃ n3, n3 = (encN n ++ m).length := ⟨_, rfl⟩
  have h3' := hown3
  rw [← hn3] at h3'
  obtain ⟨a3, c3, rfl⟩ := own_slice h3'
  clear hown hown3 hb2 hg3 hn2 hn3 h3' hel Hnum
  go_wp2_with (at_builtin; first | (refine wpList_val rfl _ _ (run_append_op (.tmp 5) (.tmp 6) 34 34 rfl rfl rfl hrun) ?_) | (refine wpList_val rfl _ _ (run_append_op (.tmp 5) (.tmp 6) 34 34 rfl (by simp) (by simp) hrun) ?_))
  go_ret
  exact ⟨_, rfl, Hown3.out, Hb3.out⟩
end Go.Proofs.Ythjjelomlgmllaa.Tithe
