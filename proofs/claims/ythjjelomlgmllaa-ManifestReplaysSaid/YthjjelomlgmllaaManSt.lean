/- State.Whole: walked (printed by mkwhole.py). Version.Equal and what it calls: walked, of like versions, and of versions that differ in the number of a level's tables. Whole records, plain: they lead to their version; and what the bytes of a right record do to a state. A state in a block of the call's own, and what State.Apply gives: for the laws on replays and on whole records. -/
import Derived.Test.YthjjelomlgmllaaManApply
import Derived.Deep.RegionHeld3
import Derived.Test.YthjjelomlgmllaaManRep
import Derived.Test.YthjjelomlgmllaaManParse2
namespace Go.Proofs.Ythjjelomlgmllaa.Tithe
open Go.RowKit Go.Sort Go.Shelf
set_option linter.unusedVariables false
set_option linter.unusedSimpArgs false
set_option maxRecDepth 100000
/-- the tables of a level, in the order in which a whole record has them -/
def levR (l : Nat → List Mr) (n : Nat) : List Mr := if n = 0 then (l 0).reverse else l n
def whP (l : Nat → List Mr) : Nat → List (Int × Mt)
  | 0 => []
  | n + 1 => whP l n ++ (levR l n).map fun r => ((n : Int), r.1)
theorem levR_len (l : Nat → List Mr) (n : Nat) : (levR l n).length = (l n).length := by
  unfold levR
  split
  · rename_i h; rw [h, List.length_reverse]
  · rfl
/-- what is so between the steps of Whole -/
structure WhI (w : World) (V : Vn) (lg : List Int) (sq : Int) (zs : Value) (rb zb n i : Nat) (W : World) (va : Value) (ad : List (Int × Mr)) : Prop where
  ps : psM ad = whP V.l n ++ ((levR V.l n).take i).map fun r => ((n : Int), r.1)
  pl : OwnPl W w.heap.size va ad
  zz : OwnZ W w.heap.size zs lg
  rk : W.heap[rb]? = some (.cells #[.bool true, .int .i64 sq, zs, va, .slice none 0 0] 27 (0, 0))
  zk : W.heap[zb]? = some (.cells #[.bool false, .int .i64 0, .slice none 0 0, .slice none 0 0, .slice none 0 0] 27 (0, 0))
  bw : Below w.heap.size w W
theorem WhI.below {w : World} {V : Vn} {lg : List Int} {sq : Int} {zs : Value} {rb zb n i : Nat} {W X : World} {va : Value} {ad : List (Int × Mr)} (h : WhI w V lg sq zs rb zb n i W va ad) (hb : Below W.heap.size W X) : WhI w V lg sq zs rb zb n i X va ad :=
  ⟨h.ps, ⟨own_below h.pl.1 hb, fun p hp => own_below (h.pl.2 p hp) hb⟩, own_below h.zz hb, blk_bels hb h.rk, blk_bels hb h.zk, h.bw.trans (hb.mono h.bw.size)⟩
/-- a change of one block of a meta -/
theorem WhI.at {w : World} {V : Vn} {lg : List Int} {sq : Int} {zs : Value} {rb zb n i mb : Nat} {W X : World} {va : Value} {ad : List (Int × Mr)} {cs : Array Value} (h : WhI w V lg sq zs rb zb n i W va ad) (hm : W.heap[mb]? = some (.cells cs 78 (0, 0))) (h1 : mb ≠ rb) (h2 : mb ≠ zb) (hk : ∀ k, k ≠ mb → X.heap[k]? = W.heap[k]?) (hb : Below w.heap.size w X) : WhI w V lg sq zs rb zb n i X va ad :=
  ⟨h.ps, ⟨own_other h.pl.1 hm (by decide) hk, fun p hp => own_other (h.pl.2 p hp) hm (by decide) hk⟩, own_other h.zz hm (by decide) hk, (hk rb (Ne.symm h1)).trans h.rk, (hk zb (Ne.symm h2)).trans h.zk, hb⟩
theorem wset9 {V : World} {b : Nat} {t : TypeId} {a0 a1 a2 a3 a4 a5 a6 a7 a8 : Value} (h : V.heap[b]? = some (.cells #[a0, a1, a2, a3, a4, a5, a6, a7, a8] t (0, 0))) (x0 x1 x2 x3 x4 x5 x6 x7 x8 : Value) :
    (((((((((V.setCell ⟨b, 0, none⟩ x0).setCell ⟨b, 1, none⟩ x1).setCell ⟨b, 2, none⟩ x2).setCell ⟨b, 3, none⟩ x3).setCell ⟨b, 4, none⟩ x4).setCell ⟨b, 5, none⟩ x5).setCell ⟨b, 6, none⟩ x6).setCell ⟨b, 7, none⟩ x7).setCell ⟨b, 8, none⟩ x8).heap[b]? = some (.cells #[x0, x1, x2, x3, x4, x5, x6, x7, x8] t (0, 0)) := by
  have s0 : (V.setCell ⟨b, 0, none⟩ x0).heap[b]? = some (.cells #[x0, a1, a2, a3, a4, a5, a6, a7, a8] t (0, 0)) := (blk_setCellR h).trans rfl
  have s1 : ((V.setCell ⟨b, 0, none⟩ x0).setCell ⟨b, 1, none⟩ x1).heap[b]? = some (.cells #[x0, x1, a2, a3, a4, a5, a6, a7, a8] t (0, 0)) := (blk_setCellR s0).trans rfl
  have s2 : (((V.setCell ⟨b, 0, none⟩ x0).setCell ⟨b, 1, none⟩ x1).setCell ⟨b, 2, none⟩ x2).heap[b]? = some (.cells #[x0, x1, x2, a3, a4, a5, a6, a7, a8] t (0, 0)) := (blk_setCellR s1).trans rfl
  have s3 : ((((V.setCell ⟨b, 0, none⟩ x0).setCell ⟨b, 1, none⟩ x1).setCell ⟨b, 2, none⟩ x2).setCell ⟨b, 3, none⟩ x3).heap[b]? = some (.cells #[x0, x1, x2, x3, a4, a5, a6, a7, a8] t (0, 0)) := (blk_setCellR s2).trans rfl
  have s4 : (((((V.setCell ⟨b, 0, none⟩ x0).setCell ⟨b, 1, none⟩ x1).setCell ⟨b, 2, none⟩ x2).setCell ⟨b, 3, none⟩ x3).setCell ⟨b, 4, none⟩ x4).heap[b]? = some (.cells #[x0, x1, x2, x3, x4, a5, a6, a7, a8] t (0, 0)) := (blk_setCellR s3).trans rfl
  have s5 : ((((((V.setCell ⟨b, 0, none⟩ x0).setCell ⟨b, 1, none⟩ x1).setCell ⟨b, 2, none⟩ x2).setCell ⟨b, 3, none⟩ x3).setCell ⟨b, 4, none⟩ x4).setCell ⟨b, 5, none⟩ x5).heap[b]? = some (.cells #[x0, x1, x2, x3, x4, x5, a6, a7, a8] t (0, 0)) := (blk_setCellR s4).trans rfl
  have s6 : (((((((V.setCell ⟨b, 0, none⟩ x0).setCell ⟨b, 1, none⟩ x1).setCell ⟨b, 2, none⟩ x2).setCell ⟨b, 3, none⟩ x3).setCell ⟨b, 4, none⟩ x4).setCell ⟨b, 5, none⟩ x5).setCell ⟨b, 6, none⟩ x6).heap[b]? = some (.cells #[x0, x1, x2, x3, x4, x5, x6, a7, a8] t (0, 0)) := (blk_setCellR s5).trans rfl
  have s7 : ((((((((V.setCell ⟨b, 0, none⟩ x0).setCell ⟨b, 1, none⟩ x1).setCell ⟨b, 2, none⟩ x2).setCell ⟨b, 3, none⟩ x3).setCell ⟨b, 4, none⟩ x4).setCell ⟨b, 5, none⟩ x5).setCell ⟨b, 6, none⟩ x6).setCell ⟨b, 7, none⟩ x7).heap[b]? = some (.cells #[x0, x1, x2, x3, x4, x5, x6, x7, a8] t (0, 0)) := (blk_setCellR s6).trans rfl
  have s8 : (((((((((V.setCell ⟨b, 0, none⟩ x0).setCell ⟨b, 1, none⟩ x1).setCell ⟨b, 2, none⟩ x2).setCell ⟨b, 3, none⟩ x3).setCell ⟨b, 4, none⟩ x4).setCell ⟨b, 5, none⟩ x5).setCell ⟨b, 6, none⟩ x6).setCell ⟨b, 7, none⟩ x7).setCell ⟨b, 8, none⟩ x8).heap[b]? = some (.cells #[x0, x1, x2, x3, x4, x5, x6, x7, x8] t (0, 0)) := (blk_setCellR s7).trans rfl
  exact s8
theorem wset9_oth (V : World) (b : Nat) (x0 x1 x2 x3 x4 x5 x6 x7 x8 : Value) (k : Nat) (hk : k ≠ b) :
    (((((((((V.setCell ⟨b, 0, none⟩ x0).setCell ⟨b, 1, none⟩ x1).setCell ⟨b, 2, none⟩ x2).setCell ⟨b, 3, none⟩ x3).setCell ⟨b, 4, none⟩ x4).setCell ⟨b, 5, none⟩ x5).setCell ⟨b, 6, none⟩ x6).setCell ⟨b, 7, none⟩ x7).setCell ⟨b, 8, none⟩ x8).heap[k]? = V.heap[k]? :=
  (Below.heap_setCell _ ⟨b, 8, none⟩ x8 k hk).trans ((Below.heap_setCell _ ⟨b, 7, none⟩ x7 k hk).trans ((Below.heap_setCell _ ⟨b, 6, none⟩ x6 k hk).trans ((Below.heap_setCell _ ⟨b, 5, none⟩ x5 k hk).trans (set5_oth V b x0 x1 x2 x3 x4 k hk))))
theorem whP_len (l : Nat → List Mr) : ∀ n, (whP l n).length = (tabs l n).length
  | 0 => rfl
  | n + 1 => by
    show (whP l n ++ _).length = (tabs l n ++ _).length
    rw [List.length_append, List.length_append, List.length_map, List.length_map, whP_len l n, levR_len]
theorem tabs_le (l : Nat → List Mr) {n : Nat} (hn : n < 4) : (tabs l n).length + (l n).length ≤ (tabs l 4).length := by
  have h : ∀ k, (tabs l (k + 1)).length = (tabs l k).length + (l k).length := fun k => by
    show (tabs l k ++ _).length = _
    rw [List.length_append, List.length_map]
  have h0 : (tabs l 1).length = (tabs l 0).length + (l 0).length := h 0
  have h1 : (tabs l 2).length = (tabs l 1).length + (l 1).length := h 1
  have h2 : (tabs l 3).length = (tabs l 2).length + (l 2).length := h 2
  have h3 : (tabs l 4).length = (tabs l 3).length + (l 3).length := h 3
  match n, hn with
  | 0, _ => omega
  | 1, _ => omega
  | 2, _ => omega
  | 3, _ => omega
theorem levR_at {l : Nat → List Mr} {n i q : Nat} (h0 : n = 0) {m : Nat} (hm : m = (l n).length) (hq : q + 1 + i = m) : (levR l n)[i]? = (l n)[q]? := by
  subst h0
  unfold levR
  rw [if_pos rfl, List.getElem?_reverse (by omega)]
  congr 1
  omega
theorem levR_ne {l : Nat → List Mr} {n : Nat} (h0 : ¬ n = 0) : levR l n = l n := by unfold levR; rw [if_neg h0]
attribute [local go_sem] Oper.semAt_some
set_option maxHeartbeats 12800000 in
theorem swhole_any (V : Vn) (sq : Int) (lv : Value) (lg : List Int) (w : World) (hV : IsVn w V) (hvl : (tabs V.l 4).length ≤ 100000) (hvr : ∀ p ∈ tabs V.l 4, p.2.1.refs.length ≤ 1000000) (hz : IsZs w lv lg) (hzl : lg.length ≤ 1000000) :
    Calls Try.prog 27 #[.agg #[V.v 0, V.v 1, V.v 2, V.v 3, .int .i64 sq, lv]] w fun e w' => ∃ (vl va : Value) (ad : List (Int × Mr)), e = .returned (.agg #[.bool true, .int .i64 sq, vl, va, .slice none 0 0]) ∧ psM ad = whP V.l 4 ∧ OwnPl w' w.heap.size va ad ∧ OwnZ w' w.heap.size vl lg ∧ Below w.heap.size w w' := by
  have hix := fun (n : Nat) (hn : n < 4) (W : World) => index_vn V hn W
  have hcl := fun (X : World) (hX : Below w.heap.size w X) => zclone_any lv lg X (hz.below hX) hzl
  obtain ⟨za, zc, rfl, -, -, -⟩ := id hz
  obtain ⟨a0, c0, e0, -, -, -⟩ := (hV 0 (by omega)).1
  obtain ⟨a1, c1, e1, -, -, -⟩ := (hV 1 (by omega)).1
  obtain ⟨a2, c2, e2, -, -, -⟩ := (hV 2 (by omega)).1
  obtain ⟨a3, c3, e3, -, -, -⟩ := (hV 3 (by omega)).1
  obtain ⟨n0, hn0⟩ : ∃ q, q = (V.l 0).length := ⟨_, rfl⟩
  obtain ⟨n1, hn1⟩ : ∃ q, q = (V.l 1).length := ⟨_, rfl⟩
  obtain ⟨n2, hn2⟩ : ∃ q, q = (V.l 2).length := ⟨_, rfl⟩
  obtain ⟨n3, hn3⟩ : ∃ q, q = (V.l 3).length := ⟨_, rfl⟩
  obtain ⟨zn, hzn⟩ : ∃ q, q = lg.length := ⟨_, rfl⟩
  rw [← hn0] at e0
  rw [← hn1] at e1
  rw [← hn2] at e2
  rw [← hn3] at e3
  rw [e0, e1, e2, e3] at hix ⊢
  rw [← hzn] at hcl ⊢
  have Hix := Lib.hid hix
  have Hzn := Lib.hid hzn
  have HVn := Lib.hid hV
  have Htl := Lib.hid hvl
  have Htr := Lib.hid hvr
  have hA : Below w.heap.size w (w.alloc (.cells #[.slice a0 n0 c0, .slice a1 n1 c1, .slice a2 n2 c2, .slice a3 n3 c3, .int .i64 sq, .slice za zn zc] 63)) := (Below.refl _ _).alloc (Nat.le_refl _) _
  have hA2 : Below (w.alloc (.cells #[.slice a0 n0 c0, .slice a1 n1 c1, .slice a2 n2 c2, .slice a3 n3 c3, .int .i64 sq, .slice za zn zc] 63)).heap.size (w.alloc (.cells #[.slice a0 n0 c0, .slice a1 n1 c1, .slice a2 n2 c2, .slice a3 n3 c3, .int .i64 sq, .slice za zn zc] 63)) ((w.alloc (.cells #[.slice a0 n0 c0, .slice a1 n1 c1, .slice a2 n2 c2, .slice a3 n3 c3, .int .i64 sq, .slice za zn zc] 63)).alloc (.cells #[.bool false, .int .i64 0, .slice none 0 0, .slice none 0 0, .slice none 0 0] 27)) := (Below.refl _ _).alloc (Nat.le_refl _) _
  have HKs := Lib.hid (blk_bels hA2 (blk_of_alloc w (.cells #[.slice a0 n0 c0, .slice a1 n1 c1, .slice a2 n2 c2, .slice a3 n3 c3, .int .i64 sq, .slice za zn zc] 63)))
  have HKz := Lib.hid (blk_of_alloc (w.alloc (.cells #[.slice a0 n0 c0, .slice a1 n1 c1, .slice a2 n2 c2, .slice a3 n3 c3, .int .i64 sq, .slice za zn zc] 63)) (.cells #[.bool false, .int .i64 0, .slice none 0 0, .slice none 0 0, .slice none 0 0] 27))
  rw [World.size_alloc] at HKz
  have HB := Lib.hid (hA.trans (hA2.mono hA.size))
  obtain ⟨zb, hzb⟩ : ∃ q, q = w.heap.size + 1 := ⟨_, rfl⟩
  obtain ⟨sb, hsb⟩ : ∃ q, q = w.heap.size := ⟨_, rfl⟩
  rw [← hzb] at HKz
  have Hzb := Lib.hid hzb
  rw [← hsb] at HKs
  have Hsb := Lib.hid hsb
  have Hcl := Lib.hid hcl
  clear hix e0 e1 e2 e3 hn0 hn1 hn2 hn3 hzn hV hvl hvr hz hcl hA hA2 hzb hsb
  go_enter Try.func27, Try.ntmps27
  go_upto_region 1 with fail
  rw [← Hzb.out, ← Hsb.out]
  generalize (w.alloc (.cells #[.slice a0 n0 c0, .slice a1 n1 c1, .slice a2 n2 c2, .slice a3 n3 c3, .int .i64 sq, .slice za zn zc] 63)).alloc (.cells #[.bool false, .int .i64 0, .slice none 0 0, .slice none 0 0, .slice none 0 0] 27) = W at *
  have HCl : Hid (∀ X : World, Below W.heap.size W X → Calls Try.prog 48 #[.slice za zn zc] X fun e w' => ∃ v', e = .returned v' ∧ OwnZ w' X.heap.size v' lg ∧ Below X.heap.size X w') := Lib.hid (fun X hX => Hcl.out X (HB.out.trans (hX.mono HB.out.size)))
  have s4 : W.cell? ⟨sb, 4, none⟩ = some (.int .i64 sq) := by rw [cell_blkR HKs.out]; rfl
  have s5 : W.cell? ⟨sb, 5, none⟩ = some (.slice za zn zc) := by rw [cell_blkR HKs.out]; rfl
  go_cut [3] (fun ev wc => ∃ (rb : Nat) (la : Option Addr) (lc : Nat), ev = .pointer (some ⟨rb, 0, none⟩) ∧ wc.heap[rb]? = some (.cells #[.bool true, .int .i64 sq, .slice la zn lc, .slice none 0 0, .slice none 0 0] 27 (0, 0)) ∧ W.heap.size ≤ rb ∧ OwnZ wc W.heap.size (.slice la zn lc) lg ∧ Below W.heap.size W wc)
  case first =>
    refine wp_region_held_drew (S := fun V' => Hid (Below W.heap.size W V')) (by kernel_rfl) (Lib.hid ((Below.refl _ _).drew)) (fun hS0 => ?_)
    refine wpAnyH_take (i := 0) (oi := { dst := some 8, op := Op.fieldAddr 63 (Operand.tmp 1) 1, type := 0, pos := "manifest.go:170", after := #[], guard := none }) (v := ?_) rfl (by kernel_rfl) (by kernel_rfl) (by kernel_rfl) (fun _ _ _ h => h) (Or.inl ⟨by rfl, ?hy1⟩) hS0 ?_
    case hy1 => (intro V hSw; (try dsimp only at hSw); clear hSw; go_simp; try with_reducible rfl)
    try simp only [Act.put, List.setIfInBounds_toArray, List.set_cons_zero, List.set_cons_succ]
    refine wpAnyH_take (i := 1) (oi := { dst := some 9, op := Op.load 3 (Operand.tmp 8), type := 3, pos := "manifest.go:170", after := #[{ on := 0, ground := Ground.data }], guard := none }) (v := ?_) rfl (by kernel_rfl) (by kernel_rfl) (by kernel_rfl) (fun _ _ _ h => h) (Or.inl ⟨by rfl, ?hy2⟩) hS0 ?_
    case hy2 => (intro V hSw; (try dsimp only at hSw); have q0 := grow_cell hSw.out (block_lt_of_cell s4) s4; have q1 := grow_cell hSw.out (block_lt_of_cell s5) s5; clear hSw; go_simp; try with_reducible rfl)
    try simp only [Act.put, List.setIfInBounds_toArray, List.set_cons_zero, List.set_cons_succ]
    refine wpAnyH_take (i := 2) (oi := { dst := some 10, op := Op.fieldAddr 63 (Operand.tmp 1) 2, type := 0, pos := "manifest.go:170", after := #[], guard := none }) (v := ?_) rfl (by kernel_rfl) (by kernel_rfl) (by kernel_rfl) (fun _ _ _ h => h) (Or.inl ⟨by rfl, ?hy3⟩) hS0 ?_
    case hy3 => (intro V hSw; (try dsimp only at hSw); clear hSw; go_simp; try with_reducible rfl)
    try simp only [Act.put, List.setIfInBounds_toArray, List.set_cons_zero, List.set_cons_succ]
    refine wpAnyH_take (i := 3) (oi := { dst := some 11, op := Op.load 22 (Operand.tmp 10), type := 22, pos := "manifest.go:170", after := #[{ on := 2, ground := Ground.data }], guard := none }) (v := ?_) rfl (by kernel_rfl) (by kernel_rfl) (by kernel_rfl) (fun _ _ _ h => h) (Or.inl ⟨by rfl, ?hy4⟩) hS0 ?_
    case hy4 => (intro V hSw; (try dsimp only at hSw); have q0 := grow_cell hSw.out (block_lt_of_cell s4) s4; have q1 := grow_cell hSw.out (block_lt_of_cell s5) s5; clear hSw; go_simp; try with_reducible rfl)
    try simp only [Act.put, List.setIfInBounds_toArray, List.set_cons_zero, List.set_cons_succ]
    refine wpAnyH_ready (rs := [4, 6]) (by kernel_rfl) (by simp) (AllReadyH.cons rfl (fun K hK => ?_) (AllReadyH.cons rfl (fun K hK => ?_) AllReadyH.nil))
    · go_simp
      refine (HCl.out _ hS0.out).mono ?_
      rintro e wv5 ⟨vl5, rfl, hz5, hv5⟩
      have hS5 := Lib.hid (hS0.out.trans (hv5.mono hS0.out.size))
      have hz5' := hz5
      rw [OwnZ, ← Hzn.out] at hz5
      obtain ⟨la5, lc5, rfl⟩ := own_slice hz5
      clear hz5
      refine hK.out _ _ hS5 (fun _ => ?_)
      clear hK K
      try simp only [Act.put, List.setIfInBounds_toArray, List.set_cons_zero, List.set_cons_succ]
      refine wpAnyH_take (i := 5) (oi := { dst := some 13, op := Op.build 27 #[(0, Operand.const (Value.bool true)), (1, Operand.tmp 9), (2, Operand.tmp 12)], type := 27, pos := "manifest.go:170", after := #[{ on := 1, ground := Ground.data }, { on := 4, ground := Ground.data }], guard := none }) (v := ?_) rfl (by kernel_rfl) (by kernel_rfl) (by kernel_rfl) (fun _ _ _ h => h) (Or.inl ⟨by rfl, ?hy6⟩) hS5 ?_
      case hy6 => (intro V hSw; (try dsimp only at hSw); clear hSw; go_simp; try with_reducible rfl)
      try simp only [Act.put, List.setIfInBounds_toArray, List.set_cons_zero, List.set_cons_succ]
      refine wpAnyH_ready (rs := [6]) (by kernel_rfl) (by simp) (AllReadyH.cons rfl (fun K hK => ?_) AllReadyH.nil)
      go_simp
      have hA7 : Below wv5.heap.size wv5 (wv5.alloc (.cells #[.bool false, .int .i64 0, .slice none 0 0, .slice none 0 0, .slice none 0 0] 27)) := (Below.refl _ _).alloc (Nat.le_refl _) _
      have hb7 : (wv5.alloc (.cells #[.bool false, .int .i64 0, .slice none 0 0, .slice none 0 0, .slice none 0 0] 27)).heap[wv5.heap.size]? = some (.cells #[.bool false, .int .i64 0, .slice none 0 0, .slice none 0 0, .slice none 0 0] 27 (0, 0)) := blk_of_alloc wv5 (.cells #[.bool false, .int .i64 0, .slice none 0 0, .slice none 0 0, .slice none 0 0] 27)
      have hS7 := Lib.hid (hS5.out.trans (hA7.mono hS5.out.size))
      have hz7' := own_below hz5' hA7
      refine hK.out _ _ hS7 (fun _ => ?_)
      clear hK K
      try simp only [Act.put, List.setIfInBounds_toArray, List.set_cons_zero, List.set_cons_succ]
      refine wpAnyH_ready (rs := [7]) (by kernel_rfl) (by simp) (AllReadyH.cons rfl (fun K hK => ?_) AllReadyH.nil)
      go_simp
      have hA8 : Below wv5.heap.size wv5 (wv5.alloc (.cells #[.bool true, .int .i64 sq, .slice la5 zn lc5, .slice none 0 0, .slice none 0 0] 27)) := (Below.refl _ _).alloc (Nat.le_refl _) _
      have hb8 := blk_of_alloc wv5 (.cells #[.bool true, .int .i64 sq, .slice la5 zn lc5, .slice none 0 0, .slice none 0 0] 27)
      have hS8 := Lib.hid (hS5.out.trans (hA8.mono hS5.out.size))
      have hz8' := own_below hz5' hA8
      refine hK.out _ _ hS8 (fun _ => ?_)
      clear hK K
      try simp only [Act.put, List.setIfInBounds_toArray, List.set_cons_zero, List.set_cons_succ]
      refine wpAnyH_done (by kernel_rfl) ?_ _
      go_wp2_with fail
      go_meet
      case rel => exact ⟨_, _, _, rfl, hb8, (by first | exact Nat.le_refl _ | exact hS0.out.size | exact hS5.out.size), own_mono hz8' (by first | exact Nat.le_refl _ | exact hS0.out.size), hS8.out⟩
    · go_simp
      have hA9 : Below W.drew.heap.size W.drew (W.drew.alloc (.cells #[.bool false, .int .i64 0, .slice none 0 0, .slice none 0 0, .slice none 0 0] 27)) := (Below.refl _ _).alloc (Nat.le_refl _) _
      have hb9 : (W.drew.alloc (.cells #[.bool false, .int .i64 0, .slice none 0 0, .slice none 0 0, .slice none 0 0] 27)).heap[W.heap.size]? = some (.cells #[.bool false, .int .i64 0, .slice none 0 0, .slice none 0 0, .slice none 0 0] 27 (0, 0)) := blk_of_alloc W.drew (.cells #[.bool false, .int .i64 0, .slice none 0 0, .slice none 0 0, .slice none 0 0] 27)
      have hS9 := Lib.hid (hS0.out.trans (hA9.mono hS0.out.size))
      refine hK.out _ _ hS9 (fun _ => ?_)
      clear hK K
      try simp only [Act.put, List.setIfInBounds_toArray, List.set_cons_zero, List.set_cons_succ]
      refine wpAnyH_ready (rs := [4]) (by kernel_rfl) (by simp) (AllReadyH.cons rfl (fun K hK => ?_) AllReadyH.nil)
      go_simp
      refine (HCl.out _ hS9.out).mono ?_
      rintro e wv10 ⟨vl10, rfl, hz10, hv10⟩
      have hS10 := Lib.hid (hS9.out.trans (hv10.mono hS9.out.size))
      have hz10' := hz10
      rw [OwnZ, ← Hzn.out] at hz10
      obtain ⟨la10, lc10, rfl⟩ := own_slice hz10
      clear hz10
      have hb10 := blk_bels hv10 hb9
      refine hK.out _ _ hS10 (fun _ => ?_)
      clear hK K
      try simp only [Act.put, List.setIfInBounds_toArray, List.set_cons_zero, List.set_cons_succ]
      refine wpAnyH_take (i := 5) (oi := { dst := some 13, op := Op.build 27 #[(0, Operand.const (Value.bool true)), (1, Operand.tmp 9), (2, Operand.tmp 12)], type := 27, pos := "manifest.go:170", after := #[{ on := 1, ground := Ground.data }, { on := 4, ground := Ground.data }], guard := none }) (v := ?_) rfl (by kernel_rfl) (by kernel_rfl) (by kernel_rfl) (fun _ _ _ h => h) (Or.inl ⟨by rfl, ?hy11⟩) hS10 ?_
      case hy11 => (intro V hSw; (try dsimp only at hSw); clear hSw; go_simp; try with_reducible rfl)
      try simp only [Act.put, List.setIfInBounds_toArray, List.set_cons_zero, List.set_cons_succ]
      refine wpAnyH_ready (rs := [7]) (by kernel_rfl) (by simp) (AllReadyH.cons rfl (fun K hK => ?_) AllReadyH.nil)
      have hp12 := fun j => cell_of_blk hb10 j
      have hq12 := fun j => frozen_of_blk hb10 j
      go_simp
      clear hp12 hq12
      have hb12 := set5 hb10 (.bool true) (.int .i64 sq) (.slice la10 zn lc10) (.slice none 0 0) (.slice none 0 0)
      have hS12 := Lib.hid (set5_below hS10.out hS0.out.size (.bool true) (.int .i64 sq) (.slice la10 zn lc10) (.slice none 0 0) (.slice none 0 0))
      have hz12' := own_other hz10' hb10 (by decide) (fun k hk => set5_oth wv10 _ (.bool true) (.int .i64 sq) (.slice la10 zn lc10) (.slice none 0 0) (.slice none 0 0) k hk)
      refine hK.out _ _ hS12 (fun _ => ?_)
      clear hK K
      try simp only [Act.put, List.setIfInBounds_toArray, List.set_cons_zero, List.set_cons_succ]
      refine wpAnyH_done (by kernel_rfl) ?_ _
      go_wp2_with fail
      go_meet
      case rel => exact ⟨_, _, _, rfl, hb12, (by first | exact Nat.le_refl _ | exact hS9.out.size | exact hS0.out.size), own_mono hz12' (by first | exact Nat.le_refl _ | exact hS9.out.size), hS12.out⟩
  case rest =>
    obtain ⟨rb, la, lc, rfl, hrb, hrw, hol, hbc⟩ := hcut
    have HI0 := Lib.hid (show WhI w V lg sq (.slice la zn lc) rb zb 0 0 wc (.slice none 0 0) [] from ⟨rfl, ⟨World.ownsRow_nil _ _ _ _, fun p hp => by cases hp⟩, own_mono hol HB.out.size, hrb, blk_bels hbc HKz.out, HB.out.trans (hbc.mono HB.out.size)⟩)
    have HS := Lib.hid (blk_bels hbc HKs.out)
    have Hne : Hid (zb ≠ rb ∧ w.heap.size ≤ rb ∧ w.heap.size ≤ zb) := Lib.hid (by have h1 := blk_lt HKz.out; have h2 := HB.out.size; have h3 := Hzb.out; omega)
    have s0 : wc.cell? ⟨sb, 0, none⟩ = some (.slice a0 n0 c0) := by rw [cell_blkR HS.out]; rfl
    have s1 : wc.cell? ⟨sb, 1, none⟩ = some (.slice a1 n1 c1) := by rw [cell_blkR HS.out]; rfl
    have s2 : wc.cell? ⟨sb, 2, none⟩ = some (.slice a2 n2 c2) := by rw [cell_blkR HS.out]; rfl
    have s3 : wc.cell? ⟨sb, 3, none⟩ = some (.slice a3 n3 c3) := by rw [cell_blkR HS.out]; rfl
    clear hrb hrw hol hbc HKs HKz HCl s4 s5
    go_wp2_with fail
    go_loopw [17] (fun nv wr => ∃ n : Nat, n ≤ 4 ∧ nv = .int .i64 n ∧ ∃ va ad, WhI w V lg sq (.slice la zn lc) rb zb n 0 wr va ad) (fun nv _ => 4 - (intOf nv).toNat)
    case atStart => exact ⟨0, by omega, rfl, _, _, HI0.out⟩
    case round =>
      obtain ⟨wo, rfl⟩ : ∃ wo : World, wo = wr := ⟨_, rfl⟩
      obtain ⟨n, hn, rfl, va0, ad0, hI⟩ := hrel
      have HI := Lib.hid hI
      clear hI s0 s1 s2 s3
      by_cases hn4 : n < 4
      rotate_left
      · obtain rfl : n = 4 := by omega
        have hni : ¬ ((4 : Nat) : Int) < 4 := by omega
        have hI4 := HI.out
        obtain ⟨ka', hka⟩ : ∃ q, q = ad0.length := ⟨_, rfl⟩
        have hpl1 := hI4.pl.1
        rw [← hka] at hpl1
        obtain ⟨aa, ac, rfl⟩ := own_slice hpl1
        have hrk := hI4.rk
        have hzk := hI4.zk
        have r0 : wo.cell? ⟨rb, 0, none⟩ = some (.bool true) := by rw [cell_blkR hrk]; rfl
        have tf0 := frozen_blkR hzk 0
        have tc0 : wo.cell? ⟨zb, 0, none⟩ = some (.bool false) := by rw [cell_blkR hzk]; rfl
        have r1 : wo.cell? ⟨rb, 1, none⟩ = some (.int .i64 sq) := by rw [cell_blkR hrk]; rfl
        have tf1 := frozen_blkR hzk 1
        have tc1 : wo.cell? ⟨zb, 1, none⟩ = some (.int .i64 0) := by rw [cell_blkR hzk]; rfl
        have r2 : wo.cell? ⟨rb, 2, none⟩ = some (.slice la zn lc) := by rw [cell_blkR hrk]; rfl
        have tf2 := frozen_blkR hzk 2
        have tc2 : wo.cell? ⟨zb, 2, none⟩ = some (.slice none 0 0) := by rw [cell_blkR hzk]; rfl
        have r3 : wo.cell? ⟨rb, 3, none⟩ = some ((.slice aa ka' ac)) := by rw [cell_blkR hrk]; rfl
        have tf3 := frozen_blkR hzk 3
        have tc3 : wo.cell? ⟨zb, 3, none⟩ = some (.slice none 0 0) := by rw [cell_blkR hzk]; rfl
        have r4 : wo.cell? ⟨rb, 4, none⟩ = some (.slice none 0 0) := by rw [cell_blkR hrk]; rfl
        have tf4 := frozen_blkR hzk 4
        have tc4 : wo.cell? ⟨zb, 4, none⟩ = some (.slice none 0 0) := by rw [cell_blkR hzk]; rfl
        have HZ := Lib.hid (set5 hzk (.bool true) (.int .i64 sq) (.slice la zn lc) (.slice aa ka' ac) (.slice none 0 0))
        have HO := Lib.hid (fun k (hk : k ≠ zb) => set5_oth wo zb (.bool true) (.int .i64 sq) (.slice la zn lc) (.slice aa ka' ac) (.slice none 0 0) k hk)
        have HBz := Lib.hid (set5_below hI4.bw Hne.out.2.2 (.bool true) (.int .i64 sq) (.slice la zn lc) (.slice aa ka' ac) (.slice none 0 0))
        have HF := Lib.hid (show psM ad0 = whP V.l 4 from by have h := hI4.ps; rw [List.take_zero, List.map_nil, List.append_nil] at h; exact h)
        clear hI4 hpl1 hrk hzk hka
        go_wp2_with fail
        have hzk := HI.out.zk
        refine bodyPost_ret (v := .agg #[.bool true, .int .i64 sq, .slice la zn lc, .slice aa ka' ac, .slice none 0 0]) ?_ rfl ⟨_, _, rfl, ad0, HF.out, ⟨own_other HI.out.pl.1 hzk (by decide) HO.out, fun p hp => own_other (HI.out.pl.2 p hp) hzk (by decide) HO.out⟩, own_other HI.out.zz hzk (by decide) HO.out, HBz.out⟩
        have hres := HZ.out
        have z0 := cell_blkR hres 0
        have z1 := cell_blkR hres 1
        have z2 := cell_blkR hres 2
        have z3 := cell_blkR hres 3
        have z4 := cell_blkR hres 4
        simp only [List.getElem?_toArray, List.getElem?_cons_zero, List.getElem?_cons_succ] at z0 z1 z2 z3 z4
        generalize (((((wo.setCell ⟨zb, 0, none⟩ (.bool true)).setCell ⟨zb, 1, none⟩ (.int .i64 sq)).setCell ⟨zb, 2, none⟩ (.slice la zn lc)).setCell ⟨zb, 3, none⟩ (.slice aa ka' ac)).setCell ⟨zb, 4, none⟩ (.slice none 0 0)) = F at *
        simp [results, Try.results27, go_sem, z0, z1, z2, z3, z4]
      have hni : (n : Int) < 4 := by omega
      have hix := fun W => Hix.out n hn4 W
      obtain ⟨⟨a, c, hv, hc1, hm1, hx1⟩, hrr⟩ := HVn.out n hn4
      rw [hv] at hix
      have Hx1 := Lib.hid hx1
      have Hrr := Lib.hid hrr
      obtain ⟨m, hm⟩ : ∃ m, m = (V.l n).length := ⟨_, rfl⟩
      rw [← hm] at hix hc1
      have hm64 : m ≤ 100000 := by rw [hm]; exact Nat.le_trans (tabs_len hn4) Htl.out
      replace hm1 : c ≤ 9223372036854775807 := by unfold maxLen at hm1; omega
      have Hm := Lib.hid hm
      clear hv hx1 hrr hm
      go_wp2_with fail
      go_loopw [23] (fun iv wr => ∃ i : Nat, i ≤ m ∧ iv = .int .i64 i ∧ ∃ va ad, WhI w V lg sq (.slice la zn lc) rb zb n i wr va ad) (fun iv _ => m - (intOf iv).toNat)
      case atStart => exact ⟨0, by omega, rfl, _, _, HI.out⟩
      case round =>
        obtain ⟨wi, rfl⟩ : ∃ wi : World, wi = wr := ⟨_, rfl⟩
        obtain ⟨i, hi, rfl, va, ad, hI2⟩ := hrel
        have Hi := Lib.hid hI2
        clear hI2 HI
        by_cases him : i < m
        rotate_left
        · obtain rfl : i = m := by omega
          have hlt : ¬ (i : Int) < (i : Int) := by omega
          have HI3 : Hid (WhI w V lg sq (.slice la zn lc) rb zb (n + 1) 0 wi va ad) := Lib.hid ⟨by rw [Hi.out.ps, Hm.out, ← levR_len, List.take_length]; simp [whP], Hi.out.pl, Hi.out.zz, Hi.out.rk, Hi.out.zk, Hi.out.bw⟩
          go_wp2_with fail
          go_roundw
          case rel => exact ⟨n + 1, by omega, by go_num, _, _, HI3.out⟩
          case measure => simp [intOf]; omega
        have hlt : (i : Int) < (m : Int) := by omega
        obtain ⟨b, off, rfl, hcell⟩ := Hx1.out (by rw [← List.length_pos_iff]; have := Hm.out; omega)
        have hrow := fun (q : Nat) (r : Mr) (hr : (V.l n)[q]? = some r) (W : World) (hW : Below w.heap.size w W) => IsMr.row (w := W) (fun i x hi j y hj => (hW.cell (block_lt_of_cell (hcell i x hi j y hj))).trans (hcell i x hi j y hj)) hr
        have Hrow := Lib.hid hrow
        obtain ⟨⟨⟨mz, mn, ka, kb, refs⟩, vr⟩, hr⟩ : ∃ r, (V.l n)[i]? = some r := ⟨_, List.getElem?_eq_getElem (by rw [← Hm.out]; exact him)⟩
        obtain ⟨d0, d1, d2, d3, d4, d5, d6, d7, d8⟩ := hrow i _ hr wi Hi.out.bw
        have hrr1 := Hrr.out _ (List.mem_of_getElem? hr)
        dsimp only at d0 d1 d2 d3 d4 d5 d6 d7 d8 hrr1
        obtain ⟨ra, rcp, rfl, -, -, -⟩ := id hrr1
        have Hr := Lib.hid hr
        have Hrr1 := Lib.hid hrr1
        obtain ⟨rn, hrn⟩ : ∃ q, q = refs.length := ⟨_, rfl⟩
        rw [← hrn] at d8 Hr Hrr1
        have Hrn := Lib.hid hrn
        have hA : Below wi.heap.size wi (wi.alloc (.cells #[.int .i64 mz, .int .i64 mn, .string ka.u, .int .i64 ka.s, .int .i64 ka.k, .string kb.u, .int .i64 kb.s, .int .i64 kb.k, .slice ra rn rcp] 78)) := (Below.refl _ _).alloc (Nat.le_refl _) _
        have HM := Lib.hid (blk_of_alloc wi (.cells #[.int .i64 mz, .int .i64 mn, .string ka.u, .int .i64 ka.s, .int .i64 ka.k, .string kb.u, .int .i64 kb.s, .int .i64 kb.k, .slice ra rn rcp] 78))
        have HI1 := Lib.hid (Hi.out.below hA)
        obtain ⟨mb, hmb⟩ : ∃ q, q = wi.heap.size := ⟨_, rfl⟩
        have Hmn : Hid (mb ≠ rb ∧ mb ≠ zb ∧ w.heap.size ≤ mb) := Lib.hid (by have h1 := blk_lt Hi.out.rk; have h2 := blk_lt Hi.out.zk; have h3 := Hi.out.bw.size; omega)
        rw [← hmb] at HM
        have Hmb := Lib.hid hmb
        clear hrow hcell hr hrr1 hrn hA hmb hix
        go_upto_region 8 with fail
        rw [← Hmb.out]
        generalize wi.alloc (.cells #[.int .i64 mz, .int .i64 mn, .string ka.u, .int .i64 ka.s, .int .i64 ka.k, .string kb.u, .int .i64 kb.s, .int .i64 kb.k, .slice ra rn rcp] 78) = wm at *
        clear d0 d1 d2 d3 d4 d5 d6 d7 d8
        by_cases hz0 : n = 0
        · have dn : decide ((n : Int) = 0) = true := decide_eq_true (by omega)
          have dn2 : ((n : Int) == 0) = true := beq_iff_eq.2 (by omega)
          have Hz0 := Lib.hid hz0
          clear hz0
          go_upto_region 9 with fail
          obtain ⟨q, hq⟩ : ∃ q, q + 1 + i = m := ⟨m - 1 - i, by omega⟩
          obtain ⟨⟨⟨mz2, mn2, ka2, kb2, refs2⟩, vr2⟩, hr2⟩ : ∃ r, (V.l n)[q]? = some r := ⟨_, List.getElem?_eq_getElem (by rw [← Hm.out]; omega)⟩
          obtain ⟨d0, d1, d2, d3, d4, d5, d6, d7, d8⟩ := Hrow.out q _ hr2 wm HI1.out.bw
          have hrr2 := Hrr.out _ (List.mem_of_getElem? hr2)
          dsimp only at d0 d1 d2 d3 d4 d5 d6 d7 d8 hrr2
          obtain ⟨ra2, rcp2, rfl, -, -, -⟩ := id hrr2
          have Hlev : Hid ((levR V.l n)[i]? = some (⟨mz2, mn2, ka2, kb2, refs2⟩, Value.slice ra2 refs2.length rcp2)) := Lib.hid ((levR_at Hz0.out Hm.out hq).trans hr2)
          obtain ⟨rn2, hrn2⟩ : ∃ q, q = refs2.length := ⟨_, rfl⟩
          rw [← hrn2] at d8 Hlev hrr2
          have Hrn2 := Lib.hid hrn2
          have Hrr2 := Lib.hid hrr2
          have tf0 := frozen_blkR HM.out 0
          have tf1 := frozen_blkR HM.out 1
          have tf2 := frozen_blkR HM.out 2
          have tf3 := frozen_blkR HM.out 3
          have tf4 := frozen_blkR HM.out 4
          have tf5 := frozen_blkR HM.out 5
          have tf6 := frozen_blkR HM.out 6
          have tf7 := frozen_blkR HM.out 7
          have tf8 := frozen_blkR HM.out 8
          have tc0 : wm.cell? ⟨mb, 0, none⟩ = some (.int .i64 mz) := by rw [cell_blkR HM.out]; rfl
          have tc1 : wm.cell? ⟨mb, 1, none⟩ = some (.int .i64 mn) := by rw [cell_blkR HM.out]; rfl
          have tc2 : wm.cell? ⟨mb, 2, none⟩ = some (.string ka.u) := by rw [cell_blkR HM.out]; rfl
          have tc3 : wm.cell? ⟨mb, 3, none⟩ = some (.int .i64 ka.s) := by rw [cell_blkR HM.out]; rfl
          have tc4 : wm.cell? ⟨mb, 4, none⟩ = some (.int .i64 ka.k) := by rw [cell_blkR HM.out]; rfl
          have tc5 : wm.cell? ⟨mb, 5, none⟩ = some (.string kb.u) := by rw [cell_blkR HM.out]; rfl
          have tc6 : wm.cell? ⟨mb, 6, none⟩ = some (.int .i64 kb.s) := by rw [cell_blkR HM.out]; rfl
          have tc7 : wm.cell? ⟨mb, 7, none⟩ = some (.int .i64 kb.k) := by rw [cell_blkR HM.out]; rfl
          have tc8 : wm.cell? ⟨mb, 8, none⟩ = some (.slice ra rn rcp) := by rw [cell_blkR HM.out]; rfl
          have e1 : (m : Int) - 1 - (i : Int) = (q : Int) := by omega
          have hqm : (q : Int) < (m : Int) := by omega
          have Hq := Lib.hid hq
          have HX := Lib.hid (wset9 HM.out (.int .i64 mz2) (.int .i64 mn2) (.string ka2.u) (.int .i64 ka2.s) (.int .i64 ka2.k) (.string kb2.u) (.int .i64 kb2.s) (.int .i64 kb2.k) (.slice ra2 rn2 rcp2))
          have HO := Lib.hid (fun k (hk : k ≠ mb) => wset9_oth wm mb (.int .i64 mz2) (.int .i64 mn2) (.string ka2.u) (.int .i64 ka2.s) (.int .i64 ka2.k) (.string kb2.u) (.int .i64 kb2.s) (.int .i64 kb2.k) (.slice ra2 rn2 rcp2) k hk)
          have hr2' := hr2
          clear hrr2 hrn2 hq
          have HIx := Lib.hid (HI1.out.at HM.out Hmn.out.1 Hmn.out.2.1 HO.out ((((((set5_below HI1.out.bw Hmn.out.2.2 (.int .i64 mz2) (.int .i64 mn2) (.string ka2.u) (.int .i64 ka2.s) (.int .i64 ka2.k)).setCell (p := ⟨mb, 5, none⟩) Hmn.out.2.2 (.string kb2.u)).setCell (p := ⟨mb, 6, none⟩) Hmn.out.2.2 (.int .i64 kb2.s)).setCell (p := ⟨mb, 7, none⟩) Hmn.out.2.2 (.int .i64 kb2.k)).setCell (p := ⟨mb, 8, none⟩) Hmn.out.2.2 (.slice ra2 rn2 rcp2))))
          have Hlr := Lib.hid (show refs2.length ≤ 1000000 from Htr.out _ (List.mem_of_getElem? (tabs_at V.l hn4 hr2')))
          clear HO hr2 hr2'
          go_upto_region 10 with fail
          generalize (((((((((wm.setCell ⟨mb, 0, none⟩ (.int .i64 mz2)).setCell ⟨mb, 1, none⟩ (.int .i64 mn2)).setCell ⟨mb, 2, none⟩ (.string ka2.u)).setCell ⟨mb, 3, none⟩ (.int .i64 ka2.s)).setCell ⟨mb, 4, none⟩ (.int .i64 ka2.k)).setCell ⟨mb, 5, none⟩ (.string kb2.u)).setCell ⟨mb, 6, none⟩ (.int .i64 kb2.s)).setCell ⟨mb, 7, none⟩ (.int .i64 kb2.k)).setCell ⟨mb, 8, none⟩ (.slice ra2 rn2 rcp2)) = wx at *
          clear d0 d1 d2 d3 d4 d5 d6 d7 d8 tc0 tc1 tc2 tc3 tc4 tc5 tc6 tc7 tc8 tf0 tf1 tf2 tf3 tf4 tf5 tf6 tf7 tf8 e1 hqm
          have Hcl2 := Lib.hid (rclone_any _ refs2 wx (Hrr2.out.below HIx.out.bw) Hlr.out)
          have m8 : wx.cell? ⟨mb, 8, none⟩ = some (.slice ra2 rn2 rcp2) := by rw [cell_blkR HX.out]; rfl
          have Hix1 := HIx
          have Hmx1 := HX
          go_wp2_with fail
          refine Hcl2.out.mono ?_
          rintro e wy ⟨vy, rfl, hor, hby⟩
          have hor2 := hor
          rw [OwnRr, ← Hrn2.out] at hor2
          obtain ⟨ya, yc, rfl⟩ := own_slice hor2
          have hMy := blk_bels hby Hmx1.out
          have hIy := Hix1.out.below hby
          have tf8 := frozen_blkR hMy 8
          have tc8 : wy.cell? ⟨mb, 8, none⟩ = some (.slice ra2 rn2 rcp2) := by rw [cell_blkR hMy]; rfl
          have HMz : Hid ((wy.setCell ⟨mb, 8, none⟩ (.slice ya rn2 yc)).heap[mb]? = some (.cells #[.int .i64 mz2, .int .i64 mn2, .string ka2.u, .int .i64 ka2.s, .int .i64 ka2.k, .string kb2.u, .int .i64 kb2.s, .int .i64 kb2.k, .slice ya rn2 yc] 78 (0, 0))) := Lib.hid ((blk_setCellR hMy).trans rfl)
          have HIz := Lib.hid (hIy.at (X := wy.setCell ⟨mb, 8, none⟩ (.slice ya rn2 yc)) hMy Hmn.out.1 Hmn.out.2.1 (fun k hk => Below.heap_setCell _ ⟨mb, 8, none⟩ _ k hk) (hIy.bw.setCell (p := ⟨mb, 8, none⟩) Hmn.out.2.2 _))
          have Hory := Lib.hid (own_mono (own_struct hor hMy (by decide) 8 (.slice ya rn2 yc)) (show w.heap.size ≤ wx.heap.size from Hix1.out.bw.size))
          clear hor hor2 hby hMy hIy m8 Hcl2 Hix1 Hmx1
          go_upto_region 11 with fail
          generalize wy.setCell ⟨mb, 8, none⟩ (.slice ya rn2 yc) = wz at *
          clear tf8 tc8
          have hpl := HIz.out.pl
          obtain ⟨ka', hka⟩ : ∃ q, q = ad.length := ⟨_, rfl⟩
          have hpl1 := hpl.1
          rw [← hka] at hpl1
          obtain ⟨aa, ac, rfl⟩ := own_slice hpl1
          have had : ad.length ≤ 1000000 := by
            have h1 := congrArg List.length HIz.out.ps
            have h2 := whP_len V.l n
            have h3 := List.length_take_le i (levR V.l n)
            have h4 := levR_len V.l n
            have h5 := tabs_le V.l hn4
            have h6 := Htl.out
            unfold psM at h1
            rw [List.length_map, List.length_append, List.length_map] at h1
            omega
          obtain ⟨a', n', c', w2, hrun, ho2, hg2⟩ := push_pl wz w.heap.size _ ad ((n : Int), ((⟨mz2, mn2, ka2, kb2, refs2⟩ : Mt), Value.slice ya rn2 yc)) ⟨_, _, _, rfl⟩ hpl.1 had HIz.out.bw.size
          dsimp only at hrun hg2
          have hal : Below wz.heap.size wz (wz.alloc (.cells #[.int .i64 (n : Nat), .int .i64 mz2, .int .i64 mn2, .string ka2.u, .int .i64 ka2.s, .int .i64 ka2.k, .string kb2.u, .int .i64 kb2.s, .int .i64 kb2.k, .slice ya rn2 yc] 80)) := (Below.refl _ _).alloc (Nat.le_refl _) _
          have hr2 := grow_at hpl.1 hal hg2 HIz.out.rk (by decide)
          have hz2 := grow_at hpl.1 hal hg2 HIz.out.zk (by decide)
          have hrf : ∀ p ∈ ad ++ [((n : Int), ((⟨mz2, mn2, ka2, kb2, refs2⟩ : Mt), Value.slice ya rn2 yc))], OwnRr w2 w.heap.size p.2.2 p.2.1.refs := fun p hp => by
            rcases List.mem_append.1 hp with hp | hp
            · exact grow_row hpl.1 hal hg2 (hpl.2 p hp) (by decide)
            · obtain rfl := List.mem_singleton.1 hp
              have h5 := Hory.out
              exact grow_row hpl.1 hal hg2 h5 (by decide)
          have hzz := grow_row hpl.1 hal hg2 HIz.out.zz (by decide)
          have HI9 : Hid (WhI w V lg sq (.slice la zn lc) rb zb n (i + 1) (w2.setCell ⟨rb, 3, none⟩ (.slice a' n' c')) (.slice a' n' c') (ad ++ [((n : Int), ((⟨mz2, mn2, ka2, kb2, refs2⟩ : Mt), Value.slice ya rn2 yc))])) := Lib.hid ⟨by
              rw [List.take_add_one, Hlev.out, psM, List.map_append, ← psM, HIz.out.ps]
              simp only [Option.toList_some, List.map_append, List.map_cons, List.map_nil, List.append_assoc],
            ⟨own_struct ho2 hr2 (by decide) 3 _, fun p hp => own_struct (hrf p hp) hr2 (by decide) 3 _⟩, own_struct hzz hr2 (by decide) 3 _, (blk_setCellR hr2).trans rfl, (Below.heap_setCell _ ⟨rb, 3, none⟩ _ zb Hne.out.1).trans hz2,
            ((HIz.out.bw.trans (hal.mono HIz.out.bw.size)).grown hg2 (HIz.out.bw.trans (hal.mono HIz.out.bw.size)).size (fun k hk => (hpl.1.lt k hk).1)).setCell (p := ⟨rb, 3, none⟩) Hne.out.2.1 _⟩
          have tf := frozen_blkR hr2 3
          have tc : w2.cell? ⟨rb, 3, none⟩ = some (.slice aa ka' ac) := by rw [cell_blkR hr2]; rfl
          have r3 : wz.cell? ⟨rb, 3, none⟩ = some (.slice aa ka' ac) := by rw [cell_blkR HIz.out.rk]; rfl
          have p0 : wz.cell? ⟨mb, 0, none⟩ = some (.int .i64 mz2) := by rw [cell_blkR HMz.out]; rfl
          have p1 : wz.cell? ⟨mb, 1, none⟩ = some (.int .i64 mn2) := by rw [cell_blkR HMz.out]; rfl
          have p2 : wz.cell? ⟨mb, 2, none⟩ = some (.string ka2.u) := by rw [cell_blkR HMz.out]; rfl
          have p3 : wz.cell? ⟨mb, 3, none⟩ = some (.int .i64 ka2.s) := by rw [cell_blkR HMz.out]; rfl
          have p4 : wz.cell? ⟨mb, 4, none⟩ = some (.int .i64 ka2.k) := by rw [cell_blkR HMz.out]; rfl
          have p5 : wz.cell? ⟨mb, 5, none⟩ = some (.string kb2.u) := by rw [cell_blkR HMz.out]; rfl
          have p6 : wz.cell? ⟨mb, 6, none⟩ = some (.int .i64 kb2.s) := by rw [cell_blkR HMz.out]; rfl
          have p7 : wz.cell? ⟨mb, 7, none⟩ = some (.int .i64 kb2.k) := by rw [cell_blkR HMz.out]; rfl
          have p8 : wz.cell? ⟨mb, 8, none⟩ = some (.slice ya rn2 yc) := by rw [cell_blkR HMz.out]; rfl
          clear hpl hpl1 hka had ho2 hg2 hal hr2 hz2 hrf hzz
          go_wp2_with (at_builtin; first | (refine wpList_val rfl _ _ (run_append_op (.tmp 44) (.tmp 48) 23 23 rfl rfl rfl hrun) ?_) | (refine wpList_val rfl _ _ (run_append_op (.tmp 44) (.tmp 48) 23 23 rfl (by simp) (by simp) hrun) ?_))
          go_roundw
          case rel => exact ⟨i + 1, by omega, by go_num, _, _, HI9.out⟩
          case measure => simp [intOf]; omega
        · have dn : decide ((n : Int) = 0) = false := decide_eq_false (by omega)
          have dn2 : ((n : Int) == 0) = false := beq_eq_false_iff_ne.2 (by omega)
          have Hlev : Hid ((levR V.l n)[i]? = some (⟨mz, mn, ka, kb, refs⟩, Value.slice ra rn rcp)) := Lib.hid (by rw [levR_ne hz0]; exact Hr.out)
          have Hlr := Lib.hid (show refs.length ≤ 1000000 from Htr.out _ (List.mem_of_getElem? (tabs_at V.l hn4 (by rw [Hrn.out] at Hr; exact Hr.out))))
          clear hz0
          go_upto_region 10 with fail
          have Hcl2 := Lib.hid (rclone_any _ refs wm (Hrr1.out.below HI1.out.bw) Hlr.out)
          have m8 : wm.cell? ⟨mb, 8, none⟩ = some (.slice ra rn rcp) := by rw [cell_blkR HM.out]; rfl
          have Hix1 := HI1
          have Hmx1 := HM
          go_wp2_with fail
          refine Hcl2.out.mono ?_
          rintro e wy ⟨vy, rfl, hor, hby⟩
          have hor2 := hor
          rw [OwnRr, ← Hrn.out] at hor2
          obtain ⟨ya, yc, rfl⟩ := own_slice hor2
          have hMy := blk_bels hby Hmx1.out
          have hIy := Hix1.out.below hby
          have tf8 := frozen_blkR hMy 8
          have tc8 : wy.cell? ⟨mb, 8, none⟩ = some (.slice ra rn rcp) := by rw [cell_blkR hMy]; rfl
          have HMz : Hid ((wy.setCell ⟨mb, 8, none⟩ (.slice ya rn yc)).heap[mb]? = some (.cells #[.int .i64 mz, .int .i64 mn, .string ka.u, .int .i64 ka.s, .int .i64 ka.k, .string kb.u, .int .i64 kb.s, .int .i64 kb.k, .slice ya rn yc] 78 (0, 0))) := Lib.hid ((blk_setCellR hMy).trans rfl)
          have HIz := Lib.hid (hIy.at (X := wy.setCell ⟨mb, 8, none⟩ (.slice ya rn yc)) hMy Hmn.out.1 Hmn.out.2.1 (fun k hk => Below.heap_setCell _ ⟨mb, 8, none⟩ _ k hk) (hIy.bw.setCell (p := ⟨mb, 8, none⟩) Hmn.out.2.2 _))
          have Hory := Lib.hid (own_mono (own_struct hor hMy (by decide) 8 (.slice ya rn yc)) (show w.heap.size ≤ wm.heap.size from Hix1.out.bw.size))
          clear hor hor2 hby hMy hIy m8 Hcl2 Hix1 Hmx1
          go_upto_region 11 with fail
          generalize wy.setCell ⟨mb, 8, none⟩ (.slice ya rn yc) = wz at *
          clear tf8 tc8
          have hpl := HIz.out.pl
          obtain ⟨ka', hka⟩ : ∃ q, q = ad.length := ⟨_, rfl⟩
          have hpl1 := hpl.1
          rw [← hka] at hpl1
          obtain ⟨aa, ac, rfl⟩ := own_slice hpl1
          have had : ad.length ≤ 1000000 := by
            have h1 := congrArg List.length HIz.out.ps
            have h2 := whP_len V.l n
            have h3 := List.length_take_le i (levR V.l n)
            have h4 := levR_len V.l n
            have h5 := tabs_le V.l hn4
            have h6 := Htl.out
            unfold psM at h1
            rw [List.length_map, List.length_append, List.length_map] at h1
            omega
          obtain ⟨a', n', c', w2, hrun, ho2, hg2⟩ := push_pl wz w.heap.size _ ad ((n : Int), ((⟨mz, mn, ka, kb, refs⟩ : Mt), Value.slice ya rn yc)) ⟨_, _, _, rfl⟩ hpl.1 had HIz.out.bw.size
          dsimp only at hrun hg2
          have hal : Below wz.heap.size wz (wz.alloc (.cells #[.int .i64 (n : Nat), .int .i64 mz, .int .i64 mn, .string ka.u, .int .i64 ka.s, .int .i64 ka.k, .string kb.u, .int .i64 kb.s, .int .i64 kb.k, .slice ya rn yc] 80)) := (Below.refl _ _).alloc (Nat.le_refl _) _
          have hr2 := grow_at hpl.1 hal hg2 HIz.out.rk (by decide)
          have hz2 := grow_at hpl.1 hal hg2 HIz.out.zk (by decide)
          have hrf : ∀ p ∈ ad ++ [((n : Int), ((⟨mz, mn, ka, kb, refs⟩ : Mt), Value.slice ya rn yc))], OwnRr w2 w.heap.size p.2.2 p.2.1.refs := fun p hp => by
            rcases List.mem_append.1 hp with hp | hp
            · exact grow_row hpl.1 hal hg2 (hpl.2 p hp) (by decide)
            · obtain rfl := List.mem_singleton.1 hp
              have h5 := Hory.out
              exact grow_row hpl.1 hal hg2 h5 (by decide)
          have hzz := grow_row hpl.1 hal hg2 HIz.out.zz (by decide)
          have HI9 : Hid (WhI w V lg sq (.slice la zn lc) rb zb n (i + 1) (w2.setCell ⟨rb, 3, none⟩ (.slice a' n' c')) (.slice a' n' c') (ad ++ [((n : Int), ((⟨mz, mn, ka, kb, refs⟩ : Mt), Value.slice ya rn yc))])) := Lib.hid ⟨by
              rw [List.take_add_one, Hlev.out, psM, List.map_append, ← psM, HIz.out.ps]
              simp only [Option.toList_some, List.map_append, List.map_cons, List.map_nil, List.append_assoc],
            ⟨own_struct ho2 hr2 (by decide) 3 _, fun p hp => own_struct (hrf p hp) hr2 (by decide) 3 _⟩, own_struct hzz hr2 (by decide) 3 _, (blk_setCellR hr2).trans rfl, (Below.heap_setCell _ ⟨rb, 3, none⟩ _ zb Hne.out.1).trans hz2,
            ((HIz.out.bw.trans (hal.mono HIz.out.bw.size)).grown hg2 (HIz.out.bw.trans (hal.mono HIz.out.bw.size)).size (fun k hk => (hpl.1.lt k hk).1)).setCell (p := ⟨rb, 3, none⟩) Hne.out.2.1 _⟩
          have tf := frozen_blkR hr2 3
          have tc : w2.cell? ⟨rb, 3, none⟩ = some (.slice aa ka' ac) := by rw [cell_blkR hr2]; rfl
          have r3 : wz.cell? ⟨rb, 3, none⟩ = some (.slice aa ka' ac) := by rw [cell_blkR HIz.out.rk]; rfl
          have p0 : wz.cell? ⟨mb, 0, none⟩ = some (.int .i64 mz) := by rw [cell_blkR HMz.out]; rfl
          have p1 : wz.cell? ⟨mb, 1, none⟩ = some (.int .i64 mn) := by rw [cell_blkR HMz.out]; rfl
          have p2 : wz.cell? ⟨mb, 2, none⟩ = some (.string ka.u) := by rw [cell_blkR HMz.out]; rfl
          have p3 : wz.cell? ⟨mb, 3, none⟩ = some (.int .i64 ka.s) := by rw [cell_blkR HMz.out]; rfl
          have p4 : wz.cell? ⟨mb, 4, none⟩ = some (.int .i64 ka.k) := by rw [cell_blkR HMz.out]; rfl
          have p5 : wz.cell? ⟨mb, 5, none⟩ = some (.string kb.u) := by rw [cell_blkR HMz.out]; rfl
          have p6 : wz.cell? ⟨mb, 6, none⟩ = some (.int .i64 kb.s) := by rw [cell_blkR HMz.out]; rfl
          have p7 : wz.cell? ⟨mb, 7, none⟩ = some (.int .i64 kb.k) := by rw [cell_blkR HMz.out]; rfl
          have p8 : wz.cell? ⟨mb, 8, none⟩ = some (.slice ya rn yc) := by rw [cell_blkR HMz.out]; rfl
          clear hpl hpl1 hka had ho2 hg2 hal hr2 hz2 hrf hzz
          go_wp2_with (at_builtin; first | (refine wpList_val rfl _ _ (run_append_op (.tmp 44) (.tmp 48) 23 23 rfl rfl rfl hrun) ?_) | (refine wpList_val rfl _ _ (run_append_op (.tmp 44) (.tmp 48) 23 23 rfl (by simp) (by simp) hrun) ?_))
          go_roundw
          case rel => exact ⟨i + 1, by omega, by go_num, _, _, HI9.out⟩
          case measure => simp [intOf]; omega
end Go.Proofs.Ythjjelomlgmllaa.Tithe
namespace Go.Proofs.Ythjjelomlgmllaa.Tithe
open Go.RowKit Go.Sort Go.Shelf
set_option linter.unusedVariables false
set_option linter.unusedSimpArgs false
set_option maxRecDepth 100000
theorem IsRr.two {w : World} {b off : Nat} {l : List (Int × Int)} (h : ∀ i x, l[i]? = some x → ∀ j y, (rfC x)[j]? = some y → w.cell? ⟨b, off + i * 2 + j, none⟩ = some y) {i : Nat} {x : Int × Int} (hx : l[i]? = some x) :
    w.cell? ⟨b, off + i * 2, none⟩ = some (.int .i64 x.1) ∧ w.cell? ⟨b, off + i * 2 + 1, none⟩ = some (.int .i64 x.2) := ⟨h i x hx 0 _ rfl, h i x hx 1 _ rfl⟩
theorem isMr_slice {w : World} {v : Value} {l : List Mr} (h : IsMr w v l) : ∃ a c, v = .slice a l.length c := by
  obtain ⟨a, c, e, -⟩ := h.1
  exact ⟨a, c, e⟩
attribute [local go_sem] Oper.semAt_some
set_option maxHeartbeats 3200000 in
theorem refeq_yes (va vb : Value) (l : List (Int × Int)) (w : World) (h : IsRr w va l) (h2 : IsRr w vb l) :
    Calls Try.prog 82 #[va, vb] w fun e w' => e = .returned (.bool true) ∧ Below w.heap.size w w' := by
  obtain ⟨xa, c, rfl, -, -, -⟩ := id h
  obtain ⟨xb, c', rfl, -, -, -⟩ := id h2
  obtain ⟨-, hc, hm, hx⟩ := h.at
  obtain ⟨-, hc', hm', hx'⟩ := h2.at
  obtain ⟨m, hmE⟩ : ∃ m, m = l.length := ⟨_, rfl⟩
  rw [← hmE] at hc hx hc' hx' ⊢
  have Hx := Lib.hid hx
  have Hx' := Lib.hid hx'
  have Hm := Lib.hid hmE
  clear h h2 hx hx' hmE
  go_enter Try.func82, Try.ntmps82
  go_wp2_with fail
  go_loopw [13] (fun iv wr => ∃ i : Nat, i ≤ m ∧ iv = .int .i64 i ∧ Below w.heap.size w wr) (fun iv _ => m - (intOf iv).toNat)
  case atStart => exact ⟨0, Nat.zero_le _, rfl, Below.refl _ _⟩
  case round =>
    obtain ⟨wo, rfl⟩ : ∃ wo : World, wo = wr := ⟨_, rfl⟩
    obtain ⟨i, hi, rfl, hb⟩ := hrel
    by_cases him : i < m
    · obtain ⟨b1, off1, rfl, hc1⟩ := Hx.out (by omega)
      obtain ⟨b2, off2, rfl, hc2⟩ := Hx'.out (by omega)
      obtain ⟨r, hr⟩ : ∃ r, l[i]? = some r := ⟨_, List.getElem?_eq_getElem (by rw [← Hm.out]; exact him)⟩
      obtain ⟨d0, d1⟩ := IsRr.two (w := wo) (fun i x hi j y hj => (hb.cell (block_lt_of_cell (hc1 i x hi j y hj))).trans (hc1 i x hi j y hj)) hr
      obtain ⟨k0, k1⟩ := IsRr.two (w := wo) (fun i x hi j y hj => (hb.cell (block_lt_of_cell (hc2 i x hi j y hj))).trans (hc2 i x hi j y hj)) hr
      obtain ⟨rz, rb⟩ := r
      dsimp only at d0 d1 k0 k1
      have Hb := Lib.hid hb
      clear hb hc1 hc2 hr
      go_wp2_with fail
      go_quiet (fail)
      go_wp2
      go_roundw
      case rel => exact ⟨i + 1, by omega, by go_num, below_drewN Hb.out _⟩
      case measure => simp [intOf]; omega
    · obtain rfl : i = m := by omega
      have Hb := Lib.hid hb
      clear hb
      go_wp2
      go_ret
      exact ⟨rfl, Hb.out⟩
set_option maxHeartbeats 3200000 in
theorem mequal_yes (z n : Int) (a b : Ky) (va vb : Value) (l : List (Int × Int)) (w : World) (h : IsRr w va l) (h2 : IsRr w vb l) :
    Calls Try.prog 61 #[metaV z n a b va, metaV z n a b vb] w fun e w' => e = .returned (.bool true) ∧ Below w.heap.size w w' := by
  obtain ⟨xa, c, rfl, -, -, -⟩ := id h
  obtain ⟨xb, c', rfl, -, -, -⟩ := id h2
  obtain ⟨m, hmE⟩ : ∃ m, m = l.length := ⟨_, rfl⟩
  unfold metaV
  obtain ⟨au, asq, ak⟩ := a
  obtain ⟨bu, bsq, bk⟩ := b
  have hB : Below w.heap.size w ((w.alloc (.cells #[.int .i64 z, .int .i64 n, .string au, .int .i64 asq, .int .i64 ak, .string bu, .int .i64 bsq, .int .i64 bk, .slice xa l.length c] 78)).alloc (.cells #[.int .i64 z, .int .i64 n, .string au, .int .i64 asq, .int .i64 ak, .string bu, .int .i64 bsq, .int .i64 bk, .slice xb l.length c'] 78)) := ((Below.refl _ _).alloc (Nat.le_refl _) _).alloc (by simp) _
  have HE := Lib.hid (refeq_yes _ _ l _ (h.below hB) (h2.below hB))
  have HB := Lib.hid hB
  rw [← hmE] at HE HB ⊢
  clear h h2 hB hmE
  go_enter Try.func61, Try.ntmps61
  go_wp2_with fail
  refine HE.out.mono ?_
  rintro e w2 ⟨rfl, hb2⟩
  have Hb2 := Lib.hid (HB.out.trans (hb2.mono HB.out.size))
  clear hb2
  go_wp2
  go_ret
  exact ⟨rfl, Hb2.out⟩
theorem mef_len (a a' : Option Addr) (n n' c c' : Nat) (fv : Value) (w : World) (h : n ≠ n') :
    Calls Try.prog 60 #[.slice a n c, .slice a' n' c', fv] w fun e w' => e = .returned (.bool false) ∧ w = w' := by
  have h1 : ((n : Int) != (n' : Int)) = true := by simpa using (show (n : Int) ≠ n' by omega)
  have h2 : ((n : Int) == (n' : Int)) = false := by simpa using (show (n : Int) ≠ n' by omega)
  go_enter Try.func60, Try.ntmps60
  go_wp2
  go_ret
  exact ⟨rfl, rfl⟩
set_option maxHeartbeats 6400000 in
theorem mef_yes (va vb : Value) (l l' : List Mr) (w : World) (h : IsMr w va l) (h2 : IsMr w vb l') (hl : l.map (·.1) = l'.map (·.1)) :
    Calls Try.prog 60 #[va, vb, .func (.func 61) #[] #[]] w fun e w' => e = .returned (.bool true) ∧ Below w.heap.size w w' := by
  obtain ⟨xa, c, rfl, -, -, -⟩ := id h.1
  obtain ⟨xb, c', rfl, -, -, -⟩ := id h2.1
  obtain ⟨-, hc, hm, hx⟩ := h.1.at
  obtain ⟨-, hc', hm', hx'⟩ := h2.1.at
  have hll : l'.length = l.length := by have := congrArg List.length hl; rw [List.length_map, List.length_map] at this; exact this.symm
  obtain ⟨m, hmE⟩ : ∃ m, m = l.length := ⟨_, rfl⟩
  rw [hll] at hc' hx' ⊢
  rw [← hmE] at hc hx hc' hx' ⊢
  have Hx := Lib.hid hx
  have Hx' := Lib.hid hx'
  have Hm := Lib.hid hmE
  have Hl := Lib.hid hl
  have Hr1 := Lib.hid h.2
  have Hr2 := Lib.hid h2.2
  have Hll := Lib.hid hll
  clear h h2 hx hx' hmE hl hll
  go_enter Try.func60, Try.ntmps60
  go_wp2_with fail
  go_loopw [17] (fun iv wr => ∃ i : Nat, i ≤ m ∧ iv = .int .i64 i ∧ Below w.heap.size w wr) (fun iv _ => m - (intOf iv).toNat)
  case atStart => exact ⟨0, Nat.zero_le _, rfl, Below.refl _ _⟩
  case round =>
    obtain ⟨wo, rfl⟩ : ∃ wo : World, wo = wr := ⟨_, rfl⟩
    obtain ⟨i, hi, rfl, hb⟩ := hrel
    by_cases him : i < m
    · obtain ⟨b1, off1, rfl, hc1⟩ := Hx.out (by omega)
      obtain ⟨b2, off2, rfl, hc2⟩ := Hx'.out (by omega)
      obtain ⟨r, hr⟩ : ∃ r, l[i]? = some r := ⟨_, List.getElem?_eq_getElem (by rw [← Hm.out]; exact him)⟩
      obtain ⟨s, hs⟩ : ∃ s, l'[i]? = some s := ⟨_, List.getElem?_eq_getElem (by rw [Hll.out, ← Hm.out]; exact him)⟩
      have hrs : r.1 = s.1 := by
        have h1 : (l.map (·.1))[i]? = some r.1 := by rw [List.getElem?_map, hr]; rfl
        have h2 : (l'.map (·.1))[i]? = some s.1 := by rw [List.getElem?_map, hs]; rfl
        rw [Hl.out, h2] at h1
        injection h1 with h1
        exact h1.symm
      obtain ⟨d0, d1, d2, d3, d4, d5, d6, d7, d8⟩ := IsMr.row (w := wo) (fun i x hi j y hj => (hb.cell (block_lt_of_cell (hc1 i x hi j y hj))).trans (hc1 i x hi j y hj)) hr
      have hkk := fun (W : World) (hW : Below wo.heap.size wo W) => IsMr.row (w := W) (fun i x hi j y hj => ((hb.trans (hW.mono hb.size)).cell (block_lt_of_cell (hc2 i x hi j y hj))).trans (hc2 i x hi j y hj)) hs
      have ir := (Hr1.out r (List.mem_of_getElem? hr)).below hb
      have is := (Hr2.out s (List.mem_of_getElem? hs)).below hb
      obtain ⟨⟨z, n, ⟨au, asq, ak⟩, ⟨bu, bsq, bk⟩, refs⟩, vr⟩ := r
      obtain ⟨m2, vs⟩ := s
      dsimp only at hrs
      subst hrs
      dsimp only at d0 d1 d2 d3 d4 d5 d6 d7 d8 hkk ir is
      obtain ⟨ra, rc, hrv, -, -, -⟩ := id ir
      obtain ⟨sa, sc, hsv, -, -, -⟩ := id is
      subst hrv hsv
      have hA : Below wo.heap.size wo (wo.alloc (.cells #[.int .i64 z, .int .i64 n, .string au, .int .i64 asq, .int .i64 ak, .string bu, .int .i64 bsq, .int .i64 bk, .slice ra refs.length rc] 78)) := (Below.refl _ _).alloc (Nat.le_refl _) _
      have hB : Below wo.heap.size wo ((wo.alloc (.cells #[.int .i64 z, .int .i64 n, .string au, .int .i64 asq, .int .i64 ak, .string bu, .int .i64 bsq, .int .i64 bk, .slice ra refs.length rc] 78)).alloc (.cells #[.int .i64 z, .int .i64 n, .string au, .int .i64 asq, .int .i64 ak, .string bu, .int .i64 bsq, .int .i64 bk, .slice sa refs.length sc] 78)) := hA.alloc (by simp) _
      obtain ⟨k0, k1, k2, k3, k4, k5, k6, k7, k8⟩ := hkk _ hA
      have HE := Lib.hid (mequal_yes z n ⟨au, asq, ak⟩ ⟨bu, bsq, bk⟩ _ _ refs _ (ir.below hB) (is.below hB))
      have hM := blk_old (blk_of_alloc wo (.cells #[.int .i64 z, .int .i64 n, .string au, .int .i64 asq, .int .i64 ak, .string bu, .int .i64 bsq, .int .i64 bk, .slice ra refs.length rc] 78)) (.cells #[.int .i64 z, .int .i64 n, .string au, .int .i64 asq, .int .i64 ak, .string bu, .int .i64 bsq, .int .i64 bk, .slice sa refs.length sc] 78)
      have hN : ((wo.alloc (.cells #[.int .i64 z, .int .i64 n, .string au, .int .i64 asq, .int .i64 ak, .string bu, .int .i64 bsq, .int .i64 bk, .slice ra refs.length rc] 78)).alloc (.cells #[.int .i64 z, .int .i64 n, .string au, .int .i64 asq, .int .i64 ak, .string bu, .int .i64 bsq, .int .i64 bk, .slice sa refs.length sc] 78)).heap[wo.heap.size + 1]? = _ := blk_new (by simp only [World.size_alloc]) _
      have f0 := (cell_of_blk hM 0).trans (show _ = some (.int .i64 z) from rfl)
      have f1 := (cell_of_blk hM 1).trans (show _ = some (.int .i64 n) from rfl)
      have f2 := (cell_of_blk hM 2).trans (show _ = some (.string au) from rfl)
      have f3 := (cell_of_blk hM 3).trans (show _ = some (.int .i64 asq) from rfl)
      have f4 := (cell_of_blk hM 4).trans (show _ = some (.int .i64 ak) from rfl)
      have f5 := (cell_of_blk hM 5).trans (show _ = some (.string bu) from rfl)
      have f6 := (cell_of_blk hM 6).trans (show _ = some (.int .i64 bsq) from rfl)
      have f7 := (cell_of_blk hM 7).trans (show _ = some (.int .i64 bk) from rfl)
      have f8 := (cell_of_blk hM 8).trans (show _ = some (.slice ra refs.length rc) from rfl)
      have g0 := (cell_of_blk hN 0).trans (show _ = some (.int .i64 z) from rfl)
      have g1 := (cell_of_blk hN 1).trans (show _ = some (.int .i64 n) from rfl)
      have g2 := (cell_of_blk hN 2).trans (show _ = some (.string au) from rfl)
      have g3 := (cell_of_blk hN 3).trans (show _ = some (.int .i64 asq) from rfl)
      have g4 := (cell_of_blk hN 4).trans (show _ = some (.int .i64 ak) from rfl)
      have g5 := (cell_of_blk hN 5).trans (show _ = some (.string bu) from rfl)
      have g6 := (cell_of_blk hN 6).trans (show _ = some (.int .i64 bsq) from rfl)
      have g7 := (cell_of_blk hN 7).trans (show _ = some (.int .i64 bk) from rfl)
      have g8 := (cell_of_blk hN 8).trans (show _ = some (.slice sa refs.length sc) from rfl)
      have Hb := Lib.hid (hb.trans (hB.mono hb.size))
      unfold metaV at HE
      clear hb hc1 hc2 hr hs ir is hkk hM hN hA hB
      generalize refs.length = rn at *
      go_wp2_with fail
      refine HE.out.mono ?_
      rintro e w2 ⟨rfl, hb2⟩
      have Hb2 := Lib.hid (Hb.out.trans (hb2.mono Hb.out.size))
      clear f0 f1 f2 f3 f4 f5 f6 f7 f8 g0 g1 g2 g3 g4 g5 g6 g7 g8 HE hb2
      go_wp2
      go_roundw
      case rel => exact ⟨i + 1, by omega, by go_num, Hb2.out⟩
      case measure => simp [intOf]; omega
    · obtain rfl : i = m := by omega
      have Hb := Lib.hid hb
      clear hb
      go_wp2
      go_ret
      exact ⟨rfl, Hb.out⟩
set_option maxHeartbeats 6400000 in
/-- the first N levels are alike; the next one, if there is one, has another number of tables -/
theorem vequal_any (U V : Vn) (N : Nat) (w : World) (hU : IsVn w U) (hV : IsVn w V) (hN : N ≤ 4) (heq : ∀ n, n < N → (U.l n).map (·.1) = (V.l n).map (·.1)) (hne : N < 4 → (U.l N).length ≠ (V.l N).length) :
    Calls Try.prog 25 #[.agg U.cells, .agg V.cells] w fun e w' => e = .returned (.bool (decide (N = 4))) ∧ Below w.heap.size w w' := by
  have hB : Below w.heap.size w ((w.alloc (.cells U.cells 61)).alloc (.cells V.cells 61)) := ((Below.refl _ _).alloc (Nat.le_refl _) _).alloc (by simp) _
  have HU := Lib.hid (blk_old (blk_of_alloc w (.cells U.cells 61)) (.cells V.cells 61))
  have HV : Hid (((w.alloc (.cells U.cells 61)).alloc (.cells V.cells 61)).heap[w.heap.size + 1]? = some (.cells V.cells 61 (0, 0))) := Lib.hid (blk_new (by simp only [World.size_alloc]) _)
  have HB := Lib.hid hB
  have IU := Lib.hid hU
  have IV := Lib.hid hV
  have Heq := Lib.hid heq
  have Hne := Lib.hid hne
  obtain ⟨cu, hcu⟩ : ∃ cu, cu = U.cells := ⟨_, rfl⟩
  obtain ⟨cv, hcv⟩ : ∃ cv, cv = V.cells := ⟨_, rfl⟩
  rw [← hcu] at HU HB HV ⊢
  rw [← hcv] at HU HB HV ⊢
  have Hcu := Lib.hid hcu
  have Hcv := Lib.hid hcv
  clear hB hU hV heq hne hcu hcv
  go_enter Try.func25, Try.ntmps25
  go_wp2_with fail
  generalize (w.alloc (.cells cu 61)).alloc (.cells cv 61) = W at *
  go_loopw [6] (fun nv wr => ∃ n : Nat, n ≤ N ∧ nv = .int .i64 n ∧ Below W.heap.size W wr) (fun nv _ => 4 - (intOf nv).toNat)
  case atStart => exact ⟨0, Nat.zero_le _, rfl, Below.refl _ _⟩
  case round =>
    obtain ⟨wo, rfl⟩ : ∃ wo : World, wo = wr := ⟨_, rfl⟩
    obtain ⟨n, hn, rfl, hb⟩ := hrel
    have Hb := Lib.hid hb
    by_cases hn4 : n < 4
    · have hni : (n : Int) < 4 := by omega
      have hbw := HB.out.trans (hb.mono HB.out.size)
      have iu := (IU.out n hn4).below hbw
      have iv := (IV.out n hn4).below hbw
      obtain ⟨sa, sc, hsu⟩ := isMr_slice iu
      obtain ⟨ta, tc, hsx⟩ := isMr_slice iv
      have hcu := cell_regrown ((cell_of_blk (blk_bels hb HU.out) n).trans (by rw [Hcu.out]; exact (vn_cell U hn4).trans (by rw [hsu])))
      have hcx := cell_regrown ((cell_of_blk (blk_bels hb HV.out) n).trans (by rw [Hcv.out]; exact (vn_cell V hn4).trans (by rw [hsx])))
      by_cases hnN : n < N
      · have HE : Hid (∀ (d : Nat) (os : Array Obj), Calls Try.prog 60 #[.slice sa (U.l n).length sc, .slice ta (V.l n).length tc, .func (.func 61) #[] #[]] (grow (redrawn wo d) os) fun e w'' => e = .returned (.bool true) ∧ ∃ p : Regrown, w'' = grow (redrawn wo p.d) p.os) :=
          Lib.hid fun d os => Calls.regrown_of (by rw [hsu] at iu; rw [hsx] at iv; exact mef_yes _ _ _ _ _ (iu.below (below_regrown wo d os)) (iv.below (below_regrown wo d os)) (Heq.out n hnN))
        clear hb hbw iu iv hsu hsx
        generalize (U.l n).length = n1 at *
        generalize (V.l n).length = n2 at *
        go_wp2_with fail
        refine wp_region_quiet_below (by kernel_rfl) (by kernel_rfl) ?_
        repeat (go_big_quiet_step (first | with_reducible exact HE.out _ _))
        refine wpQuiet_nil ?_
        intro _ hw'
        obtain ⟨⟨dq, osq⟩, hw''⟩ := hw'
        subst hw''
        have hbq := Lib.hid (Hb.out.trans ((below_regrown wo dq osq).mono Hb.out.size))
        clear hcu hcx HE
        go_wp2
        go_roundw
        case rel => exact ⟨n + 1, by omega, by go_num, hbq.out⟩
        case measure => simp [intOf]; omega
      · obtain rfl : n = N := by omega
        have HE : Hid (∀ (d : Nat) (os : Array Obj), Calls Try.prog 60 #[.slice sa (U.l n).length sc, .slice ta (V.l n).length tc, .func (.func 61) #[] #[]] (grow (redrawn wo d) os) fun e w'' => e = .returned (.bool false) ∧ ∃ p : Regrown, w'' = grow (redrawn wo p.d) p.os) :=
          Lib.hid fun d os => Calls.regrown_of ((mef_len _ _ _ _ _ _ _ _ (Hne.out hn4)).mono fun e w' ⟨q, e2⟩ => ⟨q, by rw [← e2]; exact Below.refl _ _⟩)
        clear hb hbw iu iv hsu hsx
        generalize (U.l n).length = n1 at *
        generalize (V.l n).length = n2 at *
        go_wp2_with fail
        refine wp_region_quiet_below (by kernel_rfl) (by kernel_rfl) ?_
        repeat (go_big_quiet_step (first | with_reducible exact HE.out _ _))
        refine wpQuiet_nil ?_
        intro _ hw'
        obtain ⟨⟨dq, osq⟩, hw''⟩ := hw'
        subst hw''
        have hbq := Lib.hid (HB.out.trans ((Hb.out.trans ((below_regrown wo dq osq).mono Hb.out.size)).mono HB.out.size))
        have Hd : Hid (decide (n = 4) = false) := Lib.hid (decide_eq_false (by omega))
        clear hcu hcx HE
        go_wp2
        go_ret
        exact ⟨by rw [Hd.out]; rfl, hbq.out⟩
    · obtain rfl : n = 4 := by omega
      obtain rfl : N = 4 := by omega
      have hbq := Lib.hid (HB.out.trans (hb.mono HB.out.size))
      clear hb
      go_wp2
      go_ret
      exact ⟨rfl, hbq.out⟩
end Go.Proofs.Ythjjelomlgmllaa.Tithe
namespace Go.Proofs.Ythjjelomlgmllaa.Tithe
open Go.RowKit Go.Sort Go.Shelf
set_option linter.unusedVariables false
/-- the adds, one behind the other -/
def adds (a : Int) : Lv → List (Int × Mt) → Option Lv
  | L, [] => some L
  | L, p :: t => (addP L a p).bind fun L' => adds a L' t
theorem adds_app (a : Int) : ∀ (L : Lv) (x y : List (Int × Mt)), adds a L (x ++ y) = (adds a L x).bind fun L' => adds a L' y
  | L, [], y => rfl
  | L, p :: t, y => by
    show (addP L a p).bind (fun L' => adds a L' (t ++ y)) = ((addP L a p).bind fun L' => adds a L' t).bind fun L' => adds a L' y
    cases addP L a p with
    | none => rfl
    | some L' => exact adds_app a L' t y
theorem addsP_adds (a : Int) (L : Lv) (ps : List (Int × Mt)) : ∀ k, k ≤ ps.length → addsP L a ps k = adds a L (ps.take k)
  | 0, _ => rfl
  | k + 1, h => by
    show (match addsP L a ps k with | none => none | some L' => addP L' a (ps.getD k (0, Mt.nil))) = _
    rw [addsP_adds a L ps k (by omega), List.take_succ_eq_append_getElem (by omega), adds_app]
    have e : ps.getD k (0, Mt.nil) = ps[k] := by rw [List.getD_eq_getElem?_getD, List.getElem?_eq_getElem (by omega)]; rfl
    cases adds a L (ps.take k) with
    | none => rfl
    | some L' =>
      rw [e]
      show addP L' a ps[k] = (addP L' a ps[k]).bind fun L'' => adds a L'' []
      cases addP L' a ps[k] <;> rfl
theorem addsP_all (a : Int) (L : Lv) (ps : List (Int × Mt)) : addsP L a ps ps.length = adds a L ps := by
  rw [addsP_adds a L ps _ (Nat.le_refl _), List.take_length]
/-- level 0: each one in front -/
theorem adds_zero : ∀ (ms : List Mt) (L : Lv), ∃ L', adds (-1) L (ms.map fun m => (((0 : Nat) : Int), m)) = some L' ∧ L' 0 = ms.reverse ++ L 0 ∧ ∀ k, k ≠ 0 → L' k = L k
  | [], L => ⟨L, rfl, rfl, fun _ _ => rfl⟩
  | m :: t, L => by
    have h1 : addP L (-1) (((0 : Nat) : Int), m) = some (L.upd 0 (m :: L 0)) := by
      unfold addP addAt
      dsimp only
      rw [if_neg (by omega), if_neg (by omega)]
      rfl
    obtain ⟨L', e, h2, h3⟩ := adds_zero t (L.upd 0 (m :: L 0))
    refine ⟨L', ?_, ?_, fun k hk => ?_⟩
    · rw [List.map_cons]
      show (addP L (-1) (((0 : Nat) : Int), m)).bind _ = _
      rw [h1]
      exact e
    · rw [h2, List.reverse_cons, List.append_assoc]
      congr 1
    · rw [h3 k hk]
      unfold Lv.upd
      rw [if_neg hk]
/-- the levels behind it: each one at the end -/
theorem adds_level (n : Nat) (h1 : 1 ≤ n) (hn : n < 4) : ∀ (ms : List Mt) (L : Lv), (L n ++ ms).Pairwise (fun x y => cmpK x.a y.a < 0) → ∃ L', adds (-1) L (ms.map fun m => ((n : Int), m)) = some L' ∧ L' n = L n ++ ms ∧ ∀ k, k ≠ n → L' k = L k
  | [], L, _ => ⟨L, rfl, (List.append_nil _).symm, fun _ _ => rfl⟩
  | m :: t, L, hp => by
    have hins : insP (L n) m.a = (L n).length := by
      unfold insP
      have : (L n).findIdx? (fun x => decide (0 ≤ cmpK x.a m.a)) = none := by
        rw [List.findIdx?_eq_none_iff]
        intro x hx
        have := (List.pairwise_append.1 hp).2.2 x hx m (List.mem_cons_self ..)
        exact decide_eq_false (by omega)
      rw [this]
    have ha : addP L (-1) ((n : Int), m) = some (L.upd n (L n ++ [m])) := by
      unfold addP addAt
      dsimp only
      rw [if_neg (by omega), if_pos (by omega), Int.toNat_natCast, hins, List.take_length, List.drop_length]
    have hu : (L.upd n (L n ++ [m])) n = L n ++ [m] := by unfold Lv.upd; rw [if_pos rfl]
    obtain ⟨L', e, h2, h3⟩ := adds_level n h1 hn t (L.upd n (L n ++ [m])) (by rw [hu, List.append_assoc]; exact hp)
    refine ⟨L', ?_, ?_, fun k hk => ?_⟩
    · rw [List.map_cons]
      show (addP L (-1) ((n : Int), m)).bind _ = _
      rw [ha]
      exact e
    · rw [h2, hu, List.append_assoc]; rfl
    · rw [h3 k hk]
      unfold Lv.upd
      rw [if_neg hk]
theorem mOk_cmp {m : Mt} (h : mOk m = true) : cmpK m.a m.b ≤ 0 := by
  unfold mOk metaOk headOk at h
  simp only [Bool.and_eq_true, decide_eq_true_eq] at h
  exact h.1.2
theorem ver_rise {L : Lv} (h : Ver L) {n : Nat} (h1 : 1 ≤ n) (hn : n < 4) : (L n).Pairwise fun x y => cmpK x.a y.a < 0 :=
  List.Pairwise.imp_of_mem (fun ha hb q => (cmpK_lt _ _).2 (.inl (cmpB_trans_lt (cmpK_user (mOk_cmp (h.ok _ hn _ ha))) q))) (h.ap n h1 hn)
theorem whP_eq (l : Nat → List Mr) : whP l 4 = ((((lvOf l 0).reverse.map fun m => (((0 : Nat) : Int), m)) ++ ((lvOf l 1).map fun m => (((1 : Nat) : Int), m))) ++ ((lvOf l 2).map fun m => (((2 : Nat) : Int), m))) ++ ((lvOf l 3).map fun m => (((3 : Nat) : Int), m)) := by
  have h0 : (levR l 0).map (fun r => (((0 : Nat) : Int), r.1)) = (lvOf l 0).reverse.map fun m => (((0 : Nat) : Int), m) := by
    unfold levR lvOf
    rw [if_pos rfl, ← List.map_reverse, List.map_map]; rfl
  have h1 : ∀ n, ¬ n = 0 → (levR l n).map (fun r => ((n : Int), r.1)) = (lvOf l n).map fun m => ((n : Int), m) := fun n h => by
    rw [levR_ne h]
    unfold lvOf
    rw [List.map_map]; rfl
  show ((([] ++ (levR l 0).map fun r => (((0 : Nat) : Int), r.1)) ++ (levR l 1).map fun r => (((1 : Nat) : Int), r.1)) ++ (levR l 2).map fun r => (((2 : Nat) : Int), r.1)) ++ ((levR l 3).map fun r => (((3 : Nat) : Int), r.1)) = _
  rw [h0, h1 1 (by omega), h1 2 (by omega), h1 3 (by omega), List.nil_append]
/-- the whole record leads there from nothing -/
theorem whole_apply {l : Nat → List Mr} (h : verOk l = true) : ∃ L', applyP (lvOf Vn.none.l) [] (whP l 4) = some L' ∧ LvE L' (lvOf l) := by
  have hv : verOkP (lvOf l) = true := by rw [← verOk_lv]; exact h
  have hV := ver_of hv
  have hz : ∀ n, lvOf Vn.none.l n = [] := fun n => rfl
  obtain ⟨A, a1, a2, a3⟩ := adds_zero (lvOf l 0).reverse (lvOf Vn.none.l)
  obtain ⟨B, b1, b2, b3⟩ := adds_level 1 (by omega) (by omega) (lvOf l 1) A (by rw [a3 1 (by omega), hz, List.nil_append]; exact ver_rise hV (by omega) (by omega))
  obtain ⟨C, c1, c2, c3⟩ := adds_level 2 (by omega) (by omega) (lvOf l 2) B (by rw [b3 2 (by omega), a3 2 (by omega), hz, List.nil_append]; exact ver_rise hV (by omega) (by omega))
  obtain ⟨D, d1, d2, d3⟩ := adds_level 3 (by omega) (by omega) (lvOf l 3) C (by rw [c3 3 (by omega), b3 3 (by omega), a3 3 (by omega), hz, List.nil_append]; exact ver_rise hV (by omega) (by omega))
  have hD : LvE D (lvOf l) := fun n hn => by
    match n, hn with
    | 0, _ => rw [d3 0 (by omega), c3 0 (by omega), b3 0 (by omega), a2, hz, List.append_nil, List.reverse_reverse]
    | 1, _ => rw [d3 1 (by omega), c3 1 (by omega), b2, a3 1 (by omega), hz, List.nil_append]
    | 2, _ => rw [d3 2 (by omega), c2, b3 2 (by omega), a3 2 (by omega), hz, List.nil_append]
    | 3, _ => rw [d2, c3 3 (by omega), b3 3 (by omega), a3 3 (by omega), hz, List.nil_append]
  refine ⟨D, ?_, hD⟩
  unfold applyP
  rw [show dropsP (lvOf Vn.none.l, -1) [] ([] : List Int).length = some (lvOf Vn.none.l, -1) from rfl]
  dsimp only
  rw [addsP_all, whP_eq, adds_app, adds_app, adds_app, a1, Option.bind_some, b1, Option.bind_some, c1, Option.bind_some, d1]
  dsimp only
  rw [verOkP_congr hD, hv, if_pos rfl]
theorem whP_mem {l : Nat → List Mr} {p : Int × Mt} (h : p ∈ whP l 4) : ∃ n : Nat, n < 4 ∧ p.1 = (n : Int) ∧ p.2 ∈ lvOf l n := by
  rw [whP_eq] at h
  rcases List.mem_append.1 h with h | h
  rcases List.mem_append.1 h with h | h
  rcases List.mem_append.1 h with h | h
  all_goals obtain ⟨m, hm, rfl⟩ := List.mem_map.1 h
  · exact ⟨0, by omega, rfl, List.mem_reverse.1 hm⟩
  · exact ⟨1, by omega, rfl, hm⟩
  · exact ⟨2, by omega, rfl, hm⟩
  · exact ⟨3, by omega, rfl, hm⟩
theorem plsOk_of {l : List (Int × Mr)} (h : ∀ p ∈ l, plOk p = true) : ∀ n, n ≤ l.length → plsOk l n = true
  | 0, _ => rfl
  | n + 1, hn => by
    unfold plsOk
    rw [plsOk_of h n (by omega), List.getD_eq_getElem?_getD, List.getElem?_eq_getElem (show n < l.length by omega), Option.getD_some, h _ (List.getElem_mem _)]
    rfl
/-- a state that a right record left -/
def stOk (sq : Int) (lg : List Int) : Bool := seqOk sq && zsOk lg && nodI lg lg.length
theorem recOk_st {r : Rc} (h : recOk r = true) : stOk r.seq r.logs = true := by
  unfold recOk recHead at h
  unfold stOk
  simp only [Bool.and_eq_true] at h ⊢
  exact ⟨h.1.1.1.1, h.1.2⟩
/-- the whole record is right -/
theorem whole_ok {l : Nat → List Mr} {ad : List (Int × Mr)} {sq : Int} {lg : List Int} (h : verOk l = true) (hp : psM ad = whP l 4) (hs : stOk sq lg = true) : recOk ⟨true, sq, lg, ad, []⟩ = true := by
  have hlen : ad.length ≤ 64 := by
    have h1 := congrArg List.length hp
    unfold psM at h1
    rw [List.length_map, whP_len] at h1
    have := (ver_small h).1
    omega
  have hv := ver_of (L := lvOf l) (by rw [← verOk_lv]; exact h)
  have hpl : ∀ p ∈ ad, plOk p = true := fun p hpm => by
    have h1 : (p.1, p.2.1) ∈ psM ad := List.mem_map.2 ⟨p, hpm, rfl⟩
    rw [hp] at h1
    obtain ⟨n, hn, e1, e2⟩ := whP_mem h1
    dsimp only at e1 e2
    have := hv.ok n hn _ e2
    unfold plOk
    rw [show metaOk p.2.1.z p.2.1.n p.2.1.a p.2.1.b p.2.1.refs = true from this, e1, decide_eq_true (show (0 : Int) ≤ (n : Int) by omega), decide_eq_true (show (n : Int) < 4 by omega)]
    rfl
  unfold stOk at hs
  unfold recOk recHead
  simp only [Bool.and_eq_true] at hs ⊢
  exact ⟨⟨⟨⟨⟨hs.1.1, hs.1.2⟩, rfl⟩, decide_eq_true hlen⟩, hs.2⟩, plsOk_of hpl _ (Nat.le_refl _)⟩
/-- the bytes of a right record lead on as the record does -/
theorem stepR_enc {r : Rc} (h : recOk r = true) (s : Sp) : stepR s (encR r) = (applyP (if r.wh then lvOf Vn.none.l else s.L) r.drop (psM r.add)).map fun L' => ⟨L', r.seq, r.logs⟩ := by
  have hi := recOk_is h
  unfold stepR
  rw [parS_enc hi]
  have hw : (decide ((if r.wh = true then 1 else 0) = 1) : Bool) = r.wh := by cases r.wh <;> rfl
  have hok : okPm ⟨if r.wh then 1 else 0, r.seq.toNat, r.logs, r.drop, psM r.add, ⟨[], false, false⟩⟩ = true := by
    unfold okPm okPd
    dsimp only
    rw [Int.toNat_of_nonneg hi.s0, hw, recOk_psM (psM_rowsM (psM r.add)), show (⟨r.wh, r.seq, r.logs, r.add, r.drop⟩ : Rc) = r from rfl, h]
    cases r.wh <;> rfl
  rw [if_pos hok]
  dsimp only
  rw [Int.toNat_of_nonneg hi.s0]
  cases r.wh <;> rfl
end Go.Proofs.Ythjjelomlgmllaa.Tithe
namespace Go.Proofs.Ythjjelomlgmllaa.Tithe
open Go.RowKit Go.Sort Go.Shelf
set_option linter.unusedVariables false
def stP (L : Lv) (rc : Rc) : Option Lv := if recOk rc = true then applyP (if rc.wh then lvOf Vn.none.l else L) rc.drop (psM rc.add) else none
def stC (L : Lv) (rc : Rc) : Int := if recOk rc = true then (match stP L rc with | none => 150 | some _ => 0) else 20
theorem lv_if (b : Bool) (V : Vn) : lvOf (if b then Vn.none else V).l = if b then lvOf Vn.none.l else lvOf V.l := by cases b <;> rfl
def StNo (rc : Rc) (V : Vn) (e : Ending) : Prop := ∃ c : Int, (c = 20 ∨ c = 150) ∧ c = stC (lvOf V.l) rc ∧ stP (lvOf V.l) rc = none ∧ (recOk rc = false → c = 20) ∧ (recOk rc = true → c = 150) ∧ e = .returned (.tuple #[.agg #[.slice none 0 0, .slice none 0 0, .slice none 0 0, .slice none 0 0, .int .i64 0, .slice none 0 0], .int .i64 c])
def StYes (w : World) (rc : Rc) (V : Vn) (e : Ending) (w' : World) : Prop := ∃ (L' : Lv) (U : Vn) (vl : Value), recOk rc = true ∧ applyP (if rc.wh then lvOf Vn.none.l else lvOf V.l) rc.drop (psM rc.add) = some L' ∧ e = .returned (.tuple #[.agg #[U.v 0, U.v 1, U.v 2, U.v 3, .int .i64 rc.seq, vl], .int .i64 0]) ∧ OwnVn w' w.heap.size U ∧ LvE (lvOf U.l) L' ∧ verOk U.l = true ∧ OwnZ w' w.heap.size vl rc.logs ∧ stOk rc.seq rc.logs = true
theorem stOut_two {w w' : World} {V : Vn} {rc : Rc} {e : Ending} (h : StOut w V rc e w') : Below w.heap.size w w' ∧ (StNo rc V e ∨ StYes w rc V e w') := by
  unfold StOut at h
  by_cases hr : recOk rc = true
  · rw [if_pos hr, lv_if] at h
    have hp : stP (lvOf V.l) rc = applyP (if rc.wh then lvOf Vn.none.l else lvOf V.l) rc.drop (psM rc.add) := by unfold stP; rw [if_pos hr]
    cases ha : applyP (if rc.wh then lvOf Vn.none.l else lvOf V.l) rc.drop (psM rc.add) with
    | none =>
      rw [ha] at h hp
      refine ⟨h.2, .inl ⟨150, .inr rfl, ?_, hp, fun q => ?_, fun _ => rfl, h.1⟩⟩
      · unfold stC; rw [if_pos hr, hp]
      · rw [hr] at q; cases q
    | some L' =>
      rw [ha] at h hp
      obtain ⟨U, vl, he, ho, hu, hz, hb⟩ := h
      have hv : verOk U.l = true := by
        rw [verOk_lv, verOkP_congr hu]
        exact apply_ok ha
      exact ⟨hb, .inr ⟨L', U, vl, hr, ha, he, ho, hu, hv, hz, recOk_st hr⟩⟩
  · rw [if_neg hr] at h
    have hp : stP (lvOf V.l) rc = none := by unfold stP; rw [if_neg hr]
    refine ⟨h.2, .inl ⟨20, .inl rfl, ?_, hp, fun _ => rfl, fun q => absurd q hr, h.1⟩⟩
    unfold stC; rw [if_neg hr]
/-- a state in a block of the call's own -/
structure SvI (w : World) (sb : Nat) (U : Vn) (sq : Int) (vl : Value) (lg : List Int) (W : World) : Prop where
  blk : W.heap[sb]? = some (.cells #[U.v 0, U.v 1, U.v 2, U.v 3, .int .i64 sq, vl] 63 (0, 0))
  own : OwnVn W w.heap.size U
  lgs : OwnZ W w.heap.size vl lg
  ok : verOk U.l = true
  st : stOk sq lg = true
  bw : Below w.heap.size w W
theorem SvI.below {w W X : World} {sb : Nat} {U : Vn} {sq : Int} {vl : Value} {lg : List Int} (h : SvI w sb U sq vl lg W) (hb : Below W.heap.size W X) : SvI w sb U sq vl lg X :=
  ⟨blk_bels hb h.blk, h.own.below hb, own_below h.lgs hb, h.ok, h.st, h.bw.trans (hb.mono h.bw.size)⟩
/-- a change of a block that is no row of the state's -/
theorem SvI.other {w W X : World} {sb b : Nat} {U : Vn} {sq : Int} {vl : Value} {lg : List Int} {cs : Array Value} {t : TypeId} {fr : Nat × Nat} (h : SvI w sb U sq vl lg W) (hp : W.heap[b]? = some (.cells cs t fr)) (hsb : sb ≠ b) (h1 : t ≠ 78) (h2 : t ≠ 87) (h3 : t ≠ 3) (hk : ∀ k, k ≠ b → X.heap[k]? = W.heap[k]?) (hb : Below w.heap.size w X) : SvI w sb U sq vl lg X :=
  ⟨(hk _ hsb).trans h.blk, h.own.other hp h1 h2 hk, own_other h.lgs hp h3 hk, h.ok, h.st, hb⟩
/-- the state is another one now -/
theorem SvI.turn {w W : World} {sb : Nat} {U U' : Vn} {sq sq' : Int} {vl vl' : Value} {lg lg' : List Int} (h : SvI w sb U sq vl lg W) (hs : w.heap.size ≤ sb) (ho : OwnVn W w.heap.size U') (hz : OwnZ W w.heap.size vl' lg') (hk : verOk U'.l = true) (ht : stOk sq' lg' = true) {y0 y1 y2 y3 : Value} (e0 : U'.v 0 = y0) (e1 : U'.v 1 = y1) (e2 : U'.v 2 = y2) (e3 : U'.v 3 = y3) :
    SvI w sb U' sq' vl' lg' ((((((W.setCell ⟨sb, 0, none⟩ y0).setCell ⟨sb, 1, none⟩ y1).setCell ⟨sb, 2, none⟩ y2).setCell ⟨sb, 3, none⟩ y3).setCell ⟨sb, 4, none⟩ (.int .i64 sq')).setCell ⟨sb, 5, none⟩ vl') := by
  subst e0 e1 e2 e3
  exact ⟨set6 h.blk _ _ _ _ _ _, ho.other h.blk (by decide) (by decide) (fun k hk => set6_oth W sb _ _ _ _ _ _ k hk), own_other hz h.blk (by decide) (fun k hk => set6_oth W sb _ _ _ _ _ _ k hk), hk, ht, set6_below h.bw hs _ _ _ _ _ _⟩
theorem SvI.small {w W : World} {sb : Nat} {U : Vn} {sq : Int} {vl : Value} {lg : List Int} (h : SvI w sb U sq vl lg W) : (tabs U.l 4).length ≤ 100000 ∧ ∀ p ∈ tabs U.l 4, p.2.1.refs.length ≤ 1000000 := by
  obtain ⟨h1, h2⟩ := ver_small h.ok
  exact ⟨by omega, fun p hp => by have := h2 p hp; omega⟩
theorem SvI.logs {w W : World} {sb : Nat} {U : Vn} {sq : Int} {vl : Value} {lg : List Int} (h : SvI w sb U sq vl lg W) : lg.length ≤ 1000000 := by
  have h1 := h.st
  unfold stOk at h1
  simp only [Bool.and_eq_true] at h1
  have := (zsOk_is h1.1.2).2
  omega
/-- the empty state, new -/
theorem svI_new {w W : World} (hb : Below w.heap.size w W) {X : World} (hX : Below W.heap.size W X) {sb : Nat} (hk : X.heap[sb]? = some (.cells #[.slice none 0 0, .slice none 0 0, .slice none 0 0, .slice none 0 0, .int .i64 0, .slice none 0 0] 63 (0, 0))) : SvI w sb Vn.none 0 (.slice none 0 0) [] X :=
  ⟨hk, ownVn_none _ _, World.ownsRow_nil _ _ _ _, rfl, rfl, hb.trans (hX.mono hb.size)⟩
theorem pl_bel {w X : World} {v : Value} {l : List (Int × Mr)} (h : IsPl w v l) (hb : Below w.heap.size w X) : IsPl X v l := ⟨h.1.below hb, fun p hp => (h.2 p hp).below hb⟩
/-- two versions with the same levels are equal -/
theorem vequal_yes (U V : Vn) (w : World) (hU : IsVn w U) (hV : IsVn w V) (h : LvE (lvOf U.l) (lvOf V.l)) :
    Calls Try.prog 25 #[.agg U.cells, .agg V.cells] w fun e w' => e = .returned (.bool true) ∧ Below w.heap.size w w' :=
  vequal_any U V 4 w hU hV (Nat.le_refl _) h (fun q => absurd q (by omega))
end Go.Proofs.Ythjjelomlgmllaa.Tithe
