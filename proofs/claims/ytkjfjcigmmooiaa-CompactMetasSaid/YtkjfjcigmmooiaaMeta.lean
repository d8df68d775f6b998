/- compact.Meta: walked. -/
import Derived.Test.YtkjfjcigmmooiaaRefs
import Derived.Test.YtkjfjcigmmooiaaLevCore
namespace Go.Proofs.Ytkjfjcigmmooiaa.Tithe
open Go.RowKit Go.Sort
set_option linter.unusedVariables false
set_option maxRecDepth 100000
theorem metaInfo : (Try.prog.info? 47).map (·.size) = some 9 := by kernel_rfl
theorem set9 {V : World} {b : Nat} {t : TypeId} {cs : Array Value} (hs : cs.size = 9) (h : V.heap[b]? = some (.cells cs t (0, 0))) (x0 x1 x2 x3 x4 x5 x6 x7 x8 : Value) :
    (((((((((V.setCell ⟨b, 0, none⟩ x0).setCell ⟨b, 1, none⟩ x1).setCell ⟨b, 2, none⟩ x2).setCell ⟨b, 3, none⟩ x3).setCell ⟨b, 4, none⟩ x4).setCell ⟨b, 5, none⟩ x5).setCell ⟨b, 6, none⟩ x6).setCell ⟨b, 7, none⟩ x7).setCell ⟨b, 8, none⟩ x8).heap[b]? = some (.cells #[x0, x1, x2, x3, x4, x5, x6, x7, x8] t (0, 0)) := by
  obtain ⟨l⟩ := cs
  match l, hs, h with
  | [a0, a1, a2, a3, a4, a5, a6, a7, a8], _, h =>
    have h0 : (V.setCell ⟨b, 0, none⟩ x0).heap[b]? = some (.cells #[x0, a1, a2, a3, a4, a5, a6, a7, a8] t (0, 0)) := blk_setCellR h
    have h1 : ((V.setCell ⟨b, 0, none⟩ x0).setCell ⟨b, 1, none⟩ x1).heap[b]? = some (.cells #[x0, x1, a2, a3, a4, a5, a6, a7, a8] t (0, 0)) := blk_setCellR h0
    have h2 : (((V.setCell ⟨b, 0, none⟩ x0).setCell ⟨b, 1, none⟩ x1).setCell ⟨b, 2, none⟩ x2).heap[b]? = some (.cells #[x0, x1, x2, a3, a4, a5, a6, a7, a8] t (0, 0)) := blk_setCellR h1
    have h3 : ((((V.setCell ⟨b, 0, none⟩ x0).setCell ⟨b, 1, none⟩ x1).setCell ⟨b, 2, none⟩ x2).setCell ⟨b, 3, none⟩ x3).heap[b]? = some (.cells #[x0, x1, x2, x3, a4, a5, a6, a7, a8] t (0, 0)) := blk_setCellR h2
    have h4 : (((((V.setCell ⟨b, 0, none⟩ x0).setCell ⟨b, 1, none⟩ x1).setCell ⟨b, 2, none⟩ x2).setCell ⟨b, 3, none⟩ x3).setCell ⟨b, 4, none⟩ x4).heap[b]? = some (.cells #[x0, x1, x2, x3, x4, a5, a6, a7, a8] t (0, 0)) := blk_setCellR h3
    have h5 : ((((((V.setCell ⟨b, 0, none⟩ x0).setCell ⟨b, 1, none⟩ x1).setCell ⟨b, 2, none⟩ x2).setCell ⟨b, 3, none⟩ x3).setCell ⟨b, 4, none⟩ x4).setCell ⟨b, 5, none⟩ x5).heap[b]? = some (.cells #[x0, x1, x2, x3, x4, x5, a6, a7, a8] t (0, 0)) := blk_setCellR h4
    have h6 : (((((((V.setCell ⟨b, 0, none⟩ x0).setCell ⟨b, 1, none⟩ x1).setCell ⟨b, 2, none⟩ x2).setCell ⟨b, 3, none⟩ x3).setCell ⟨b, 4, none⟩ x4).setCell ⟨b, 5, none⟩ x5).setCell ⟨b, 6, none⟩ x6).heap[b]? = some (.cells #[x0, x1, x2, x3, x4, x5, x6, a7, a8] t (0, 0)) := blk_setCellR h5
    have h7 : ((((((((V.setCell ⟨b, 0, none⟩ x0).setCell ⟨b, 1, none⟩ x1).setCell ⟨b, 2, none⟩ x2).setCell ⟨b, 3, none⟩ x3).setCell ⟨b, 4, none⟩ x4).setCell ⟨b, 5, none⟩ x5).setCell ⟨b, 6, none⟩ x6).setCell ⟨b, 7, none⟩ x7).heap[b]? = some (.cells #[x0, x1, x2, x3, x4, x5, x6, x7, a8] t (0, 0)) := blk_setCellR h6
    have h8 : (((((((((V.setCell ⟨b, 0, none⟩ x0).setCell ⟨b, 1, none⟩ x1).setCell ⟨b, 2, none⟩ x2).setCell ⟨b, 3, none⟩ x3).setCell ⟨b, 4, none⟩ x4).setCell ⟨b, 5, none⟩ x5).setCell ⟨b, 6, none⟩ x6).setCell ⟨b, 7, none⟩ x7).setCell ⟨b, 8, none⟩ x8).heap[b]? = some (.cells #[x0, x1, x2, x3, x4, x5, x6, x7, x8] t (0, 0)) := blk_setCellR h7
    exact h8
theorem set9_below {w V : World} (hb : Below w.heap.size w V) (x0 x1 x2 x3 x4 x5 x6 x7 x8 : Value) : Below w.heap.size w (((((((((V.setCell ⟨w.heap.size, 0, none⟩ x0).setCell ⟨w.heap.size, 1, none⟩ x1).setCell ⟨w.heap.size, 2, none⟩ x2).setCell ⟨w.heap.size, 3, none⟩ x3).setCell ⟨w.heap.size, 4, none⟩ x4).setCell ⟨w.heap.size, 5, none⟩ x5).setCell ⟨w.heap.size, 6, none⟩ x6).setCell ⟨w.heap.size, 7, none⟩ x7).setCell ⟨w.heap.size, 8, none⟩ x8) :=
  (((((((((hb.setCell (Nat.le_refl _) _).setCell (Nat.le_refl _) _).setCell (Nat.le_refl _) _).setCell (Nat.le_refl _) _).setCell (Nat.le_refl _) _).setCell (Nat.le_refl _) _).setCell (Nat.le_refl _) _).setCell (Nat.le_refl _) _).setCell (Nat.le_refl _) _)
theorem own_set {V : World} {base b i : Nat} {e : TypeId} {size n : Nat} {x v : Value} {xs : List Value} (h : V.ownsRow base e size x n xs) (hlt : b < base) : (V.setCell ⟨b, i, none⟩ v).ownsRow base e size x n xs :=
  own_far h (grown_setCellR V b i v) (by rintro r e; cases e; exact hlt)
theorem set9_own {V : World} {b base : Nat} {e : TypeId} {size n : Nat} {x : Value} {xs : List Value} (hlt : b < base) (h : V.ownsRow base e size x n xs) (x0 x1 x2 x3 x4 x5 x6 x7 x8 : Value) :
    (((((((((V.setCell ⟨b, 0, none⟩ x0).setCell ⟨b, 1, none⟩ x1).setCell ⟨b, 2, none⟩ x2).setCell ⟨b, 3, none⟩ x3).setCell ⟨b, 4, none⟩ x4).setCell ⟨b, 5, none⟩ x5).setCell ⟨b, 6, none⟩ x6).setCell ⟨b, 7, none⟩ x7).setCell ⟨b, 8, none⟩ x8).ownsRow base e size x n xs :=
  own_set (own_set (own_set (own_set (own_set (own_set (own_set (own_set (own_set h hlt) hlt) hlt) hlt) hlt) hlt) hlt) hlt) hlt
set_option maxHeartbeats 1600000 in
theorem meta_none (v : Value) (z : Int) (w : World) (h : IsEs w v []) :
    Calls Try.prog 16 #[v, .int .i64 z] w fun e w' => e = .returned (metaV z 0 Ky.nil Ky.nil (.slice none 0 0)) ∧ Below w.heap.size w w' := by
  obtain ⟨a, c, rfl, -, -, -⟩ := id h
  clear h
  go_enter Try.func16, Try.ntmps16
  go_wp2
  refine bodyPost_ret (v := metaV z 0 Ky.nil Ky.nil (.slice none 0 0)) ?_ rfl ⟨rfl, (Below.refl _ _).alloc (Nat.le_refl _) _⟩
  exact results_cell_row Try.results16 _ _ w.heap.size 47 _ (0, 0) _ rfl (by show (w.heap.push _)[w.heap.size]? = _; rw [Array.getElem?_push_size]; rfl) Try.underlying47 rfl metaInfo
set_option maxHeartbeats 1600000 in
theorem meta_some (v : Value) (g : List En) (x y : En) (z : Int) (w : World) (h : IsEs w v g) (hg : g.length ≤ 100000) (hs : ∀ x ∈ g, x.val.size ≤ 1000000) (hx : g[0]? = some x) (hy : g[g.length - 1]? = some y) :
    Calls Try.prog 16 #[v, .int .i64 z] w fun e w' => ∃ vr, e = .returned (metaV z g.length x.key y.key vr) ∧ w'.ownsRow w.heap.size 45 2 vr (refsTo (bytesTo g g.length) 64).length (flat refC (refsTo (bytesTo g g.length) 64)) ∧ Below w.heap.size w w' := by
  obtain ⟨a, c, rfl, -, -, -⟩ := id h
  obtain ⟨-, hc, hm, hx'⟩ := h.at
  have hpos : 0 < g.length := (List.getElem?_eq_some_iff.1 hx).1
  obtain ⟨b, off, rfl, hcell⟩ := hx' hpos
  obtain ⟨c0, c1, c2, -⟩ := IsEs.row hcell hx
  obtain ⟨d0, d1, d2, -⟩ := IsEs.row hcell hy
  rw [Nat.zero_mul, Nat.add_zero] at c0 c1 c2
  have hlt := block_lt_of_cell c0
  dsimp only at hlt
  obtain ⟨⟨u, s, k⟩, val⟩ := x
  obtain ⟨⟨u2, s2, k2⟩, val2⟩ := y
  dsimp only at c0 c1 c2 d0 d1 d2
  clear hcell hx'
  have H := Lib.hid h
  have Hs := Lib.hid hs
  obtain ⟨n, hn⟩ : ∃ n, n = g.length := ⟨_, rfl⟩
  rw [← hn] at hpos hc hg hy d0 d1 d2 H ⊢
  have Hn := Lib.hid hn
  clear h hs hn hx hy
  have hn1 : (n : Int) - 1 < (n : Int) := by omega
  have hn2 : (0 : Int) ≤ (n : Int) - 1 := by omega
  have hn4 : (1 : Int) ≤ (n : Int) := by omega
  have hwr : IntKind.i64.wrap ((n : Int) - 1) = (n : Int) - 1 := by
    have := Lib.wrap_i64_small (n - 1) (by omega)
    rw [Int.natCast_sub hpos] at this
    exact this
  have hn3 : ((n : Int) - 1).toNat = n - 1 := by omega
  go_enter Try.func16, Try.ntmps16
  go_wp2
  have hW : Below w.heap.size w (w.alloc (.cells #[.int .i64 0, .int .i64 0, .string ⟨#[]⟩, .int .i64 0, .int .i64 0, .string ⟨#[]⟩, .int .i64 0, .int .i64 0, .slice none 0 0] 47)) := (Below.refl _ _).alloc (Nat.le_refl _) _
  have hbW : (w.alloc (.cells #[.int .i64 0, .int .i64 0, .string ⟨#[]⟩, .int .i64 0, .int .i64 0, .string ⟨#[]⟩, .int .i64 0, .int .i64 0, .slice none 0 0] 47)).heap[w.heap.size]? = some (.cells #[.int .i64 0, .int .i64 0, .string ⟨#[]⟩, .int .i64 0, .int .i64 0, .string ⟨#[]⟩, .int .i64 0, .int .i64 0, .slice none 0 0] 47 (0, 0)) := by
    show (w.heap.push _)[w.heap.size]? = _; rw [Array.getElem?_push_size]
  generalize hWW : w.alloc (.cells #[.int .i64 0, .int .i64 0, .string ⟨#[]⟩, .int .i64 0, .int .i64 0, .string ⟨#[]⟩, .int .i64 0, .int .i64 0, .slice none 0 0] 47) = W at *
  clear hWW
  have hlw : w.heap.size < W.heap.size := (Array.getElem?_eq_some_iff.1 hbW).1
  have e0 := cell_bel hW hlt c0
  have e1 := cell_bel hW hlt c1
  have e2 := cell_bel hW hlt c2
  have f0 := cell_bel hW hlt d0
  have f1 := cell_bel hW hlt d1
  have f2 := cell_bel hW hlt d2
  have hR := refs_any _ g W.drew ((H.out.below hW).below (w' := W.drew) ⟨rfl, rfl, rfl, Nat.le_refl _, fun _ _ => rfl⟩) (by rw [← Hn.out]; exact hg) Hs.out
  rw [← Hn.out] at hR
  have HR := Lib.hid hR
  have HbW := Lib.hid hbW
  have HW := Lib.hid hW
  clear hR hbW hW c0 c1 c2 d0 d1 d2
  have hne : b ≠ w.heap.size := Nat.ne_of_lt hlt
  have hne2 : w.heap.size ≠ b := fun e => hne e.symm
  go_region_held3 (fun w' => w'.cell? ⟨b, off, none⟩ = some (.string u) ∧ w'.cell? ⟨b, off + 1, none⟩ = some (.int .i64 s) ∧ w'.cell? ⟨b, off + 2, none⟩ = some (.int .i64 k) ∧ w'.cell? ⟨b, off + (n - 1) * 4, none⟩ = some (.string u2) ∧ w'.cell? ⟨b, off + (n - 1) * 4 + 1, none⟩ = some (.int .i64 s2) ∧ w'.cell? ⟨b, off + (n - 1) * 4 + 2, none⟩ = some (.int .i64 k2))
    (first | go_keep | skip)
    ((first
    | (go_at_call 15; (with_reducible refine HR.out.mono ?_); rintro e w2 ⟨vr, rfl, ho2, hb2⟩; have g0 := cell_bel hb2 (Nat.lt_trans hlt hlw) e0; have g1 := cell_bel hb2 (Nat.lt_trans hlt hlw) e1; have g2 := cell_bel hb2 (Nat.lt_trans hlt hlw) e2; have j0 := cell_bel hb2 (Nat.lt_trans hlt hlw) f0; have j1 := cell_bel hb2 (Nat.lt_trans hlt hlw) f1; have j2 := cell_bel hb2 (Nat.lt_trans hlt hlw) f2; have hbk := (hb2.block _ hlw).trans HbW.out; have hcc := fun j => cell_blkR hbk j; have hfz := fun j => frozen_blkR hbk j; have Hbk := Lib.hid hbk; have Ho2 := Lib.hid ho2; have Hb2 := Lib.hid hb2; obtain ⟨aa, cc, rfl⟩ := own_slice ho2; clear hbk ho2 hb2)))
  go_wp2
  refine bodyPost_ret (v := metaV z n ⟨u, s, k⟩ ⟨u2, s2, k2⟩ (.slice aa (refsTo (bytesTo g n) 64).length cc)) ?_ rfl ⟨_, rfl, own_mono (set9_own hlw Ho2.out _ _ _ _ _ _ _ _ _) (Nat.le_of_lt hlw), set9_below (HW.out.trans ((Below.mono (w := W) (w' := w2) (Below.trans ((Below.refl W.heap.size W).drew) Hb2.out) (Nat.le_of_lt hlw)))) _ _ _ _ _ _ _ _ _⟩
  exact results_cell_row Try.results16 _ _ w.heap.size 47 _ (0, 0) _ rfl (set9 rfl Hbk.out _ _ _ _ _ _ _ _ _) Try.underlying47 rfl metaInfo
end Go.Proofs.Ytkjfjcigmmooiaa.Tithe
