/- manifest's Parse: plain; places of a call's own. -/
import Derived.Test.YthjjelomlgmllaaManSrc
import Derived.Test.YthjjelomlgmllaaManRecP
import Derived.Test.YthjjelomlgmllaaLevOwn
namespace Go.Proofs.Ythjjelomlgmllaa.Tithe
open Go.RowKit Go.Sort Go.Shelf
set_option linter.unusedVariables false
def rfN : Nat → So → List (Int × Int) × So
  | 0, s => ([], s)
  | n + 1, s => ((((numS s).1 : Int), ((numS (numS s).2).1 : Int)) :: (rfN n (numS (numS s).2).2).1, (rfN n (numS (numS s).2).2).2)
/-- a place without its refs -/
structure Ph where
  lv : Nat
  z : Nat
  n : Nat
  a : Ky
  b : Ky
def phS (s : So) : Ph × So :=
  let s1 := (numS s).2
  let s2 := (numS s1).2
  let s3 := (numS s2).2
  let s4 := (keyS s3).2
  (⟨(numS s).1, (numS s1).1, (numS s2).1, (keyS s3).1, (keyS s4).1⟩, (keyS s4).2)
def rfS (s : So) : List (Int × Int) × So := rfN (cntS s).1 (cntS s).2
def Ph.pl (h : Ph) (l : List (Int × Int)) : Int × Mt := ((h.lv : Int), ⟨(h.z : Int), (h.n : Int), h.a, h.b, l⟩)
def plS (s : So) : (Int × Mt) × So := ((phS s).1.pl (rfS (phS s).2).1, (rfS (phS s).2).2)
def adN : Nat → So → List (Int × Mt) × So
  | 0, s => ([], s)
  | n + 1, s => ((plS s).1 :: (adN n (plS s).2).1, (adN n (plS s).2).2)
def adS (s : So) : List (Int × Mt) × So := adN (cntS s).1 (cntS s).2
/-- what was read -/
structure Pd where
  wh : Nat
  sq : Nat
  lg : List Int
  dr : List Int
  ad : List (Int × Mt)
  s : So
def parS (bs : List Nat) : Pd :=
  let s0 : So := ⟨bs, false, false⟩
  let s1 := (numS s0).2
  let s2 := (numS s1).2
  let s3 := (lstS s2).2
  let s4 := (lstS s3).2
  ⟨(numS s0).1, (numS s1).1, (lstS s2).1, (lstS s3).1, (adS s4).1, (adS s4).2⟩
/-! ### worlds -/
theorem IsSo.blw {w0 w1 w2 : World} {xb rb B : Nat} {s1 s2 : So} (h1 : IsSo w0 w1 xb rb s1) (h2 : IsSo w0 w2 xb rb s2) (hk : KpS w1 w2 xb rb) (hr : B ≤ rb) (hB : B ≤ w1.heap.size) : Below B w1 w2 := by
  have a := h1.rd.below
  have b := h2.rd.below
  have hn := h1.ne
  exact ⟨b.os.trans a.os.symm, b.tape.trans a.tape.symm, b.output.trans a.output.symm, hk.1, fun k hk2 => hk.2 k (by omega) (by omega) (by omega)⟩
theorem so_c0 {w0 w : World} {xb rb : Nat} {s : So} (h : IsSo w0 w xb rb s) : w.cell? ⟨xb, 0, none⟩ = some (.pointer (some ⟨rb, 0, none⟩)) := by rw [cell_blkR h.blk]; rfl
theorem so_set {w0 w X : World} {xb rb kb : Nat} {s : So} (h : IsSo w0 X xb rb s) (hk : KpS w X xb rb) (hw0 : w0.heap.size ≤ w.heap.size) (h1 : w.heap.size ≤ kb) (h2 : kb ≠ xb) (h3 : kb ≠ rb) (i : Nat) (x : Value) :
    IsSo w0 (X.setCell ⟨kb, i, none⟩ x) xb rb s ∧ KpS w (X.setCell ⟨kb, i, none⟩ x) xb rb := by
  have hb : Below w.heap.size X (X.setCell ⟨kb, i, none⟩ x) := Below.setCell (p := ⟨kb, i, none⟩) (Below.refl _ _) h1 _
  have hh : ∀ k, k ≠ kb → (X.setCell ⟨kb, i, none⟩ x).heap[k]? = X.heap[k]? := fun k hne => Below.heap_setCell _ ⟨kb, i, none⟩ x k hne
  exact ⟨h.keep (hb.mono hw0) (hh xb h2.symm) (hh rb h3.symm), Nat.le_trans hk.1 hb.size, fun k a b c => (hb.block k a).trans (hk.2 k a b c)⟩
/-- three cells of a key -/
theorem so_key {w0 w X : World} {xb rb kb : Nat} {s : So} (h : IsSo w0 X xb rb s) (hk : KpS w X xb rb) (hw0 : w0.heap.size ≤ w.heap.size) (h1 : w.heap.size ≤ kb) (h2 : kb ≠ xb) (h3 : kb ≠ rb) (i j l : Nat) (x y z : Value) :
    IsSo w0 (((X.setCell ⟨kb, i, none⟩ x).setCell ⟨kb, j, none⟩ y).setCell ⟨kb, l, none⟩ z) xb rb s ∧ KpS w (((X.setCell ⟨kb, i, none⟩ x).setCell ⟨kb, j, none⟩ y).setCell ⟨kb, l, none⟩ z) xb rb := by
  obtain ⟨a1, a2⟩ := so_set h hk hw0 h1 h2 h3 i x
  obtain ⟨b1, b2⟩ := so_set a1 a2 hw0 h1 h2 h3 j y
  exact so_set b1 b2 hw0 h1 h2 h3 l z
/-- an own row and a struct's block of another type -/
theorem own_struct {W : World} {base P : Nat} {e t : TypeId} {sz n : Nat} {v : Value} {xs : List Value} {cs : Array Value} (h : W.ownsRow base e sz v n xs) (hp : W.heap[P]? = some (.cells cs t (0, 0))) (ht : t ≠ e) (i : Nat) (x : Value) : (W.setCell ⟨P, i, none⟩ x).ownsRow base e sz v n xs :=
  own_typed h (grown_setCellR W P i x) (fun g e => by injection e with e; subst e; exact ⟨_, _, _, hp, ht⟩)
/-- one element more, by way of a new block -/
theorem push_k {α : Type} {enc : α → List Value} {sz : Nat} (he : ∀ x, (enc x).length = sz) (hsz : 0 < sz) {t e : TypeId} (ht : Try.prog.underlying t = some (.slice e)) {i : TypeInfo} {z : Value} {bytes : Nat} (hi : Try.prog.info? e = some i) (hz : i.zero = some z) (hs : i.size = sz) (hby : i.bytes = bytes) (hzs : z.cells.size = sz) (hbb : bytes ≤ 1000)
    (W : World) (base : Nat) (v : Value) (l : List α) (x : α) (h1 : ∀ u ∈ enc x, u.oneCell' = true) (h : W.ownsRow base e sz v l.length (flat enc l)) (hl : l.length ≤ 1000000) (hb : base ≤ W.heap.size) :
    ∃ (a' : Option Addr) (n' c' : Nat) (w2 : World), (Builtin.append_ #[t, t] t #[v, .slice (some ⟨W.heap.size, 0, none⟩) 1 1]).run Try.prog (W.alloc (.cells (enc x).toArray e)) = .ok (.slice a' n' c') w2 ∧ w2.ownsRow base e sz (.slice a' n' c') (l ++ [x]).length (flat enc (l ++ [x])) ∧ (W.alloc (.cells (enc x).toArray e)).grownBy w2 v.ownBlock := by
  have hal : Below W.heap.size W (W.alloc (.cells (enc x).toArray e)) := (Below.refl _ _).alloc (Nat.le_refl _) _
  have hfx : flat enc [x] = enc x := by simp [flat]
  have hx : IsSl enc sz (W.alloc (.cells (enc x).toArray e)) (.slice (some ⟨W.heap.size, 0, none⟩) 1 1) [x] := isSl_lit he [x] (enc x).toArray e W.heap.size rfl (by rw [hfx]) 1 rfl (by unfold maxLen; omega)
  have ho : (W.alloc (.cells (enc x).toArray e)).ownsRow base e sz v l.length (flat enc l) := own_below h hal
  obtain ⟨v', w2, hrun, r1, r2, -⟩ := run_append_own (P := Try.prog) (W.alloc (.cells (enc x).toArray e)) base t t e i z sz bytes ht hi hz hs hby hzs hsz v l.length (flat enc l) ho ⟨W.heap.size, 0, none⟩ 1 1 (flat enc [x]) (by rw [hfx, he, Nat.one_mul]) (fun j u hj => hx.news he j u hj) (by rw [hfx]; exact h1) (by unfold maxLen; omega) (by
    have : (l.length + 1) * bytes ≤ 1000001 * 1000 := Nat.mul_le_mul (by omega) hbb
    omega) (Nat.le_trans hb hal.size)
  have h2 : w2.ownsRow base e sz v' (l ++ [x]).length (flat enc (l ++ [x])) := by
    rw [List.length_append, flat_append]
    exact r1
  obtain ⟨n', hn'⟩ : ∃ n', n' = (l ++ [x]).length := ⟨_, rfl⟩
  have h2' := h2
  rw [← hn'] at h2'
  obtain ⟨a', c', rfl⟩ := own_slice h2'
  exact ⟨a', n', c', w2, hrun, h2, r2⟩
theorem refInfoP : (Try.prog.info? 87).map (fun i => (i.zero, i.size, i.bytes)) = some (some (.agg #[.int .i64 0, .int .i64 0]), 2, 16) := by kernel_rfl
theorem push_rf (W : World) (base : Nat) (v : Value) (l : List (Int × Int)) (x : Int × Int) (h : OwnRr W base v l) (hl : l.length ≤ 1000000) (hb : base ≤ W.heap.size) :
    ∃ (a' : Option Addr) (n' c' : Nat) (w2 : World), (Builtin.append_ #[76, 76] 76 #[v, .slice (some ⟨W.heap.size, 0, none⟩) 1 1]).run Try.prog (W.alloc (.cells #[.int .i64 x.1, .int .i64 x.2] 87)) = .ok (.slice a' n' c') w2 ∧ OwnRr w2 base (.slice a' n' c') (l ++ [x]) ∧ (W.alloc (.cells #[.int .i64 x.1, .int .i64 x.2] 87)).grownBy w2 v.ownBlock := by
  obtain ⟨i0, hi0, hz0, hz1, hz2⟩ := info_partsR refInfoP
  exact push_k rfC_len (by decide) Try.underlying76 hi0 hz0 hz1 hz2 rfl (by decide) W base v l x (fun u hu => by simp [rfC] at hu; rcases hu with rfl | rfl <;> rfl) h hl hb
theorem plInfoP : (Try.prog.info? 80).map (fun i => (i.zero, i.size, i.bytes)) = some (some (.agg #[.int .i64 0, .int .i64 0, .int .i64 0, .string ⟨#[]⟩, .int .i64 0, .int .i64 0, .string ⟨#[]⟩, .int .i64 0, .int .i64 0, .slice none 0 0]), 10, 112) := by kernel_rfl
/-- places of a call's own -/
def OwnPl (W : World) (base : Nat) (v : Value) (l : List (Int × Mr)) : Prop := W.ownsRow base 80 10 v l.length (flat plC l) ∧ ∀ p ∈ l, OwnRr W base p.2.2 p.2.1.refs
theorem OwnPl.is {W : World} {base : Nat} {v : Value} {l : List (Int × Mr)} (h : OwnPl W base v l) : IsPl W v l := ⟨isSl_own plC_len h.1, fun p hp => (h.2 p hp).is⟩
theorem push_pl (W : World) (base : Nat) (v : Value) (l : List (Int × Mr)) (x : Int × Mr) (hx : ∃ a n c, x.2.2 = .slice a n c) (h : W.ownsRow base 80 10 v l.length (flat plC l)) (hl : l.length ≤ 1000000) (hb : base ≤ W.heap.size) :
    ∃ (a' : Option Addr) (n' c' : Nat) (w2 : World), (Builtin.append_ #[23, 23] 23 #[v, .slice (some ⟨W.heap.size, 0, none⟩) 1 1]).run Try.prog (W.alloc (.cells #[.int .i64 x.1, .int .i64 x.2.1.z, .int .i64 x.2.1.n, .string x.2.1.a.u, .int .i64 x.2.1.a.s, .int .i64 x.2.1.a.k, .string x.2.1.b.u, .int .i64 x.2.1.b.s, .int .i64 x.2.1.b.k, x.2.2] 80)) = .ok (.slice a' n' c') w2 ∧ w2.ownsRow base 80 10 (.slice a' n' c') (l ++ [x]).length (flat plC (l ++ [x])) ∧ (W.alloc (.cells #[.int .i64 x.1, .int .i64 x.2.1.z, .int .i64 x.2.1.n, .string x.2.1.a.u, .int .i64 x.2.1.a.s, .int .i64 x.2.1.a.k, .string x.2.1.b.u, .int .i64 x.2.1.b.s, .int .i64 x.2.1.b.k, x.2.2] 80)).grownBy w2 v.ownBlock := by
  obtain ⟨i0, hi0, hz0, hz1, hz2⟩ := info_partsR plInfoP
  obtain ⟨a, n, c, hx⟩ := hx
  exact push_k plC_len (by decide) Try.underlying23 hi0 hz0 hz1 hz2 rfl (by decide) W base v l x (fun u hu => by simp [plC, mrC] at hu; rcases hu with rfl | rfl | rfl | rfl | rfl | rfl | rfl | rfl | rfl | rfl <;> first | rfl | (rw [hx]; rfl)) h hl hb
theorem own_other {W W' : World} {base b : Nat} {e t : TypeId} {sz n : Nat} {v : Value} {xs : List Value} {cs : Array Value} {fr : Nat × Nat} (h : W.ownsRow base e sz v n xs) (hp : W.heap[b]? = some (.cells cs t fr)) (ht : t ≠ e) (hk : ∀ k, k ≠ b → W'.heap[k]? = W.heap[k]?) : W'.ownsRow base e sz v n xs := by
  refine ⟨h.1, ?_⟩
  rcases h.2 with h0 | ⟨g, cap, cur, hv, hb, hh, r⟩
  · exact .inl h0
  · refine .inr ⟨g, cap, cur, hv, hb, (hk g (fun e1 => ?_)).trans hh, r⟩
    subst e1
    rw [hp] at hh
    injection hh with hh
    injection hh with _ hh _
    exact ht hh
/-- behind the growth of a row: a block of another type -/
theorem grow_at {W W1 w2 : World} {base b : Nat} {e t : TypeId} {sz n : Nat} {v : Value} {xs : List Value} {cs : Array Value} {fr : Nat × Nat} (ho : W.ownsRow base e sz v n xs) (hal : Below W.heap.size W W1) (hg : W1.grownBy w2 v.ownBlock) (hb : W.heap[b]? = some (.cells cs t fr)) (ht : t ≠ e) : w2.heap[b]? = some (.cells cs t fr) := by
  refine (hg.block b (Nat.lt_of_lt_of_le (blk_lt hb) hal.size) (fun q => ?_)).trans (blk_bels hal hb)
  obtain ⟨cur, hc⟩ := own_rowblk ho b q.symm
  rw [hb] at hc
  injection hc with hc
  injection hc with _ hc _
  exact ht hc
/-- and a row of another type -/
theorem grow_row {W W1 w2 : World} {base base2 : Nat} {e e2 : TypeId} {sz n sz2 n2 : Nat} {v v2 : Value} {xs xs2 : List Value} (ho : W.ownsRow base e sz v n xs) (hal : Below W.heap.size W W1) (hg : W1.grownBy w2 v.ownBlock) (h2 : W.ownsRow base2 e2 sz2 v2 n2 xs2) (ht : e ≠ e2) : w2.ownsRow base2 e2 sz2 v2 n2 xs2 := by
  refine ⟨h2.1, ?_⟩
  rcases h2.2 with h0 | ⟨g, cap, cur, hv, hb, hh, r⟩
  · exact .inl h0
  · exact .inr ⟨g, cap, cur, hv, hb, grow_at ho hal hg hh (fun q => ht q.symm), r⟩
theorem set5 {V : World} {b : Nat} {t : TypeId} {a0 a1 a2 a3 a4 : Value} (h : V.heap[b]? = some (.cells #[a0, a1, a2, a3, a4] t (0, 0))) (x0 x1 x2 x3 x4 : Value) :
    (((((V.setCell ⟨b, 0, none⟩ x0).setCell ⟨b, 1, none⟩ x1).setCell ⟨b, 2, none⟩ x2).setCell ⟨b, 3, none⟩ x3).setCell ⟨b, 4, none⟩ x4).heap[b]? = some (.cells #[x0, x1, x2, x3, x4] t (0, 0)) := by
  rw [blk_setCellR (blk_setCellR (blk_setCellR (blk_setCellR (blk_setCellR h))))]; rfl
theorem set5_oth (V : World) (b : Nat) (x0 x1 x2 x3 x4 : Value) (k : Nat) (hk : k ≠ b) :
    (((((V.setCell ⟨b, 0, none⟩ x0).setCell ⟨b, 1, none⟩ x1).setCell ⟨b, 2, none⟩ x2).setCell ⟨b, 3, none⟩ x3).setCell ⟨b, 4, none⟩ x4).heap[k]? = V.heap[k]? :=
  (Below.heap_setCell _ ⟨b, 4, none⟩ x4 k hk).trans ((Below.heap_setCell _ ⟨b, 3, none⟩ x3 k hk).trans ((Below.heap_setCell _ ⟨b, 2, none⟩ x2 k hk).trans ((Below.heap_setCell _ ⟨b, 1, none⟩ x1 k hk).trans (Below.heap_setCell _ ⟨b, 0, none⟩ x0 k hk))))
theorem set5_below {B : Nat} {w V : World} (h : Below B w V) {b : Nat} (hb : B ≤ b) (x0 x1 x2 x3 x4 : Value) :
    Below B w (((((V.setCell ⟨b, 0, none⟩ x0).setCell ⟨b, 1, none⟩ x1).setCell ⟨b, 2, none⟩ x2).setCell ⟨b, 3, none⟩ x3).setCell ⟨b, 4, none⟩ x4) :=
  Below.setCell (p := ⟨b, 4, none⟩) (Below.setCell (p := ⟨b, 3, none⟩) (Below.setCell (p := ⟨b, 2, none⟩) (Below.setCell (p := ⟨b, 1, none⟩) (Below.setCell (p := ⟨b, 0, none⟩) h hb _) hb _) hb _) hb _) hb _
theorem OwnPl.nil (W : World) (base : Nat) : OwnPl W base (.slice none 0 0) [] := ⟨World.ownsRow_nil _ _ _ _, fun p hp => by cases hp⟩
theorem par_fin {w X : World} {B base ob : Nat} {vl va vd : Value} {lg dr : List Int} {ad : List (Int × Mr)} {cs : Array Value} {fr : Nat × Nat} (hb : Below B w X) (hB : B ≤ ob) (hob : X.heap[ob]? = some (.cells cs 27 fr)) (h1 : OwnZ X base vl lg) (h2 : OwnZ X base vd dr) (h3 : OwnPl X base va ad) (hbb : B ≤ base) (x0 x1 x2 x3 x4 : Value) :
    Below B w (((((X.setCell ⟨ob, 0, none⟩ x0).setCell ⟨ob, 1, none⟩ x1).setCell ⟨ob, 2, none⟩ x2).setCell ⟨ob, 3, none⟩ x3).setCell ⟨ob, 4, none⟩ x4) ∧ OwnZ (((((X.setCell ⟨ob, 0, none⟩ x0).setCell ⟨ob, 1, none⟩ x1).setCell ⟨ob, 2, none⟩ x2).setCell ⟨ob, 3, none⟩ x3).setCell ⟨ob, 4, none⟩ x4) B vl lg ∧ OwnZ (((((X.setCell ⟨ob, 0, none⟩ x0).setCell ⟨ob, 1, none⟩ x1).setCell ⟨ob, 2, none⟩ x2).setCell ⟨ob, 3, none⟩ x3).setCell ⟨ob, 4, none⟩ x4) B vd dr ∧ OwnPl (((((X.setCell ⟨ob, 0, none⟩ x0).setCell ⟨ob, 1, none⟩ x1).setCell ⟨ob, 2, none⟩ x2).setCell ⟨ob, 3, none⟩ x3).setCell ⟨ob, 4, none⟩ x4) B va ad := by
  have hk := fun k hk => set5_oth X ob x0 x1 x2 x3 x4 k hk
  exact ⟨set5_below hb hB _ _ _ _ _, own_mono (own_other h1 hob (by decide) hk) hbb, own_mono (own_other h2 hob (by decide) hk) hbb, own_mono (own_other h3.1 hob (by decide) hk) hbb, fun p hp => own_mono (own_other (h3.2 p hp) hob (by decide) hk) hbb⟩
end Go.Proofs.Ythjjelomlgmllaa.Tithe
