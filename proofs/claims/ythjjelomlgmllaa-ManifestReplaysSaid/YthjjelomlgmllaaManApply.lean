/- State.Apply: walked (printed by mkmanapply.py). -/
import Derived.Test.YthjjelomlgmllaaManParP
import Derived.Test.YthjjelomlgmllaaLevApply
import Derived.Deep.RegionHeld3
namespace Go.Proofs.Ythjjelomlgmllaa.Tithe
open Go.RowKit Go.Sort Go.Shelf
set_option linter.unusedVariables false
set_option linter.unusedSimpArgs false
set_option maxRecDepth 100000
set_option maxHeartbeats 800000 in
theorem zclone_any (v : Value) (l : List Int) (w : World) (h : IsZs w v l) (hl : l.length ≤ 1000000) : Calls Try.prog 48 #[v] w fun e w' => ∃ v', e = .returned v' ∧ OwnZ w' w.heap.size v' l ∧ Below w.heap.size w w' := by
  obtain ⟨i0, hi0, hz0, hz1, hz2⟩ := info_partsR intInfo1
  obtain ⟨a0, c, rfl, hc, hm, hx⟩ := id h
  cases a0 with
  | none =>
    have hs : ∀ w : World, (binOp .eql 22 (.slice none 0 c) (.slice none 0 0)).run Try.prog w = .ok (.bool true) w := fun _ => rfl
    have hl : l = [] := by
      rcases Nat.eq_zero_or_pos l.length with q | q
      · exact List.eq_nil_of_length_eq_zero q
      · obtain ⟨_, _, e, _⟩ := hx (List.length_pos_iff.1 q); cases e
    subst hl
    clear h hx
    rw [List.length_nil]
    go_enter Try.func48, Try.ntmps48
    go_wp2
    go_ret
    exact ⟨_, rfl, World.ownsRow_nil _ _ _ _, Below.refl _ _⟩
  | some ad =>
    have hs : ∀ w : World, (binOp .eql 22 (.slice (some ad) l.length c) (.slice none 0 0)).run Try.prog w = .ok (.bool false) w := fun _ => rfl
    have h2 : ∀ o, IsZs (w.alloc o) (.slice (some ad) l.length c) l := fun o => h.below ((Below.refl _ _).alloc (Nat.le_refl _) _)
    have H2 := Lib.hid h2
    obtain ⟨n, hn⟩ : ∃ n, n = l.length := ⟨_, rfl⟩
    unfold OwnZ
    rw [← hn] at hs H2 hl ⊢
    have Hn := Lib.hid hn
    clear h h2 hn hx hm hc
    go_enter Try.func48, Try.ntmps48
    go_wp2_with (first | (at_builtin; refine wpList_append_sl rfl (.tmp 5) (.tmp 6) 22 rfl w.heap.size 3 i0 (.int .i64 0) 1 8 Try.underlying22 hi0 hz0 hz1 hz2 rfl (by decide) (.slice (some ⟨w.heap.size, 0, none⟩) 0 0) 0 [] rfl (ownsRow_empty' w _ _) zzC_len l n Hn.out (.slice (some ad) n c) rfl (H2.out _) (zz_one _) ?c1 ?c2 ?c3 ?_))
    case c1 => unfold maxLen; omega
    case c2 => omega
    case c3 => simp
    intro v' w1 hown' hgrow
    have hg : Below w.heap.size w w1 := by
      have hb := (Below.refl w.heap.size w).alloc (Nat.le_refl _) (.cells #[] 3)
      exact hb.grown hgrow hb.size (fun k e => by cases e; exact Nat.le_refl _)
    have Hown := Lib.hid hown'
    clear hown' hgrow
    go_wp2
    go_ret
    exact ⟨_, rfl, Hown.out, hg⟩
theorem set6 {V : World} {b : Nat} {t : TypeId} {a0 a1 a2 a3 a4 a5 : Value} (h : V.heap[b]? = some (.cells #[a0, a1, a2, a3, a4, a5] t (0, 0))) (x0 x1 x2 x3 x4 x5 : Value) :
    ((((((V.setCell ⟨b, 0, none⟩ x0).setCell ⟨b, 1, none⟩ x1).setCell ⟨b, 2, none⟩ x2).setCell ⟨b, 3, none⟩ x3).setCell ⟨b, 4, none⟩ x4).setCell ⟨b, 5, none⟩ x5).heap[b]? = some (.cells #[x0, x1, x2, x3, x4, x5] t (0, 0)) := by
  rw [blk_setCellR (blk_setCellR (blk_setCellR (blk_setCellR (blk_setCellR (blk_setCellR h)))))]; rfl
theorem set6_oth (V : World) (b : Nat) (x0 x1 x2 x3 x4 x5 : Value) (k : Nat) (hk : k ≠ b) :
    ((((((V.setCell ⟨b, 0, none⟩ x0).setCell ⟨b, 1, none⟩ x1).setCell ⟨b, 2, none⟩ x2).setCell ⟨b, 3, none⟩ x3).setCell ⟨b, 4, none⟩ x4).setCell ⟨b, 5, none⟩ x5).heap[k]? = V.heap[k]? :=
  (Below.heap_setCell _ ⟨b, 5, none⟩ x5 k hk).trans (set5_oth V b x0 x1 x2 x3 x4 k hk)
theorem set6_below {B : Nat} {w V : World} (h : Below B w V) {b : Nat} (hb : B ≤ b) (x0 x1 x2 x3 x4 x5 : Value) :
    Below B w ((((((V.setCell ⟨b, 0, none⟩ x0).setCell ⟨b, 1, none⟩ x1).setCell ⟨b, 2, none⟩ x2).setCell ⟨b, 3, none⟩ x3).setCell ⟨b, 4, none⟩ x4).setCell ⟨b, 5, none⟩ x5) :=
  Below.setCell (p := ⟨b, 5, none⟩) (set5_below h hb x0 x1 x2 x3 x4) hb _
theorem OwnVn.other {W W' : World} {base b : Nat} {t : TypeId} {U : Vn} {cs : Array Value} {fr : Nat × Nat} (h : OwnVn W base U) (hp : W.heap[b]? = some (.cells cs t fr)) (h1 : t ≠ 78) (h2 : t ≠ 87) (hk : ∀ k, k ≠ b → W'.heap[k]? = W.heap[k]?) : OwnVn W' base U :=
  ⟨fun n hn => ⟨own_other (h.own n hn).1 hp h1 hk, fun r hr => own_other ((h.own n hn).2 r hr) hp h2 hk⟩, h.apart⟩
/-- what State.Apply gives -/
def StOut (w : World) (V : Vn) (rc : Rc) (e : Ending) (w' : World) : Prop :=
  if recOk rc = true then
    match applyP (lvOf (if rc.wh then Vn.none else V).l) rc.drop (psM rc.add) with
    | none => e = .returned (.tuple #[.agg #[.slice none 0 0, .slice none 0 0, .slice none 0 0, .slice none 0 0, .int .i64 0, .slice none 0 0], .int .i64 150]) ∧ Below w.heap.size w w'
    | some L' => ∃ (U : Vn) (vl : Value), e = .returned (.tuple #[.agg #[U.v 0, U.v 1, U.v 2, U.v 3, .int .i64 rc.seq, vl], .int .i64 0]) ∧ OwnVn w' w.heap.size U ∧ (∀ n, n < 4 → lvOf U.l n = L' n) ∧ OwnZ w' w.heap.size vl rc.logs ∧ Below w.heap.size w w'
  else e = .returned (.tuple #[.agg #[.slice none 0 0, .slice none 0 0, .slice none 0 0, .slice none 0 0, .int .i64 0, .slice none 0 0], .int .i64 20]) ∧ Below w.heap.size w w'
theorem stOut_bad {w : World} {V : Vn} {rc : Rc} {e : Ending} {w' : World} (h : recOk rc = false) (he : e = .returned (.tuple #[.agg #[.slice none 0 0, .slice none 0 0, .slice none 0 0, .slice none 0 0, .int .i64 0, .slice none 0 0], .int .i64 20])) (hb : Below w.heap.size w w') : StOut w V rc e w' := by
  unfold StOut; rw [h]; exact ⟨he, hb⟩
theorem stOut_no {w : World} {V : Vn} {rc : Rc} {e : Ending} {w' : World} (h : recOk rc = true) (ha : applyP (lvOf (if rc.wh then Vn.none else V).l) rc.drop (psM rc.add) = none) (he : e = .returned (.tuple #[.agg #[.slice none 0 0, .slice none 0 0, .slice none 0 0, .slice none 0 0, .int .i64 0, .slice none 0 0], .int .i64 150])) (hb : Below w.heap.size w w') : StOut w V rc e w' := by
  unfold StOut; rw [h, if_pos rfl, ha]; exact ⟨he, hb⟩
theorem stOut_yes {w : World} {V : Vn} {rc : Rc} {e : Ending} {w' : World} {L' : Lv} (h : recOk rc = true) (ha : applyP (lvOf (if rc.wh then Vn.none else V).l) rc.drop (psM rc.add) = some L') (U : Vn) (vl : Value) (he : e = .returned (.tuple #[.agg #[U.v 0, U.v 1, U.v 2, U.v 3, .int .i64 rc.seq, vl], .int .i64 0])) (ho : OwnVn w' w.heap.size U) (hu : ∀ n, n < 4 → lvOf U.l n = L' n) (hz : OwnZ w' w.heap.size vl rc.logs) (hb : Below w.heap.size w w') : StOut w V rc e w' := by
  unfold StOut; rw [h, if_pos rfl, ha]; exact ⟨U, vl, he, ho, hu, hz, hb⟩
attribute [local go_sem] Oper.semAt_some
set_option maxHeartbeats 12800000 in
theorem sapply_any (V : Vn) (sq : Int) (lv : Value) (hlv : ∃ x y z, lv = .slice x y z) (wh : Bool) (s : Int) (vl va vd : Value) (ls : List Int) (ad : List (Int × Mr)) (dr : List Int) (w : World) (hV : IsVn w V) (hgood : verOk V.l = true) (hvl : (tabs V.l 4).length ≤ 100000) (hvr : ∀ p ∈ tabs V.l 4, p.2.1.refs.length ≤ 1000000)
    (hl : IsZs w vl ls) (hd : IsZs w vd dr) (ha : IsPl w va ad) (hal : ad.length ≤ 100000) (hrl : ∀ p ∈ ad, p.2.1.refs.length ≤ 1000000) :
    Calls Try.prog 23 #[.agg #[V.v 0, V.v 1, V.v 2, V.v 3, .int .i64 sq, lv], .agg #[.bool wh, .int .i64 s, vl, va, vd]] w fun e w' => StOut w V ⟨wh, s, ls, ad, dr⟩ e w' := by
  obtain ⟨lva, lvn, lvc, rfl⟩ := hlv
  have hck := fun (X : World) (hX : Below w.heap.size w X) => rcheck_any wh s vl va vd ls ad dr X (hl.below hX) (hd.below hX) ⟨ha.1.below hX, fun p hp => (ha.2 p hp).below hX⟩ hal hrl
  obtain ⟨F, hF⟩ : ∃ F, F = if wh then Vn.none else V := ⟨_, rfl⟩
  have hFi : IsVn w F := by rw [hF]; cases wh with | true => exact (ownVn_none w 0).isVn | false => exact hV
  have hFg : verOk F.l = true := by rw [hF]; cases wh with | true => rfl | false => exact hgood
  have hFl : (tabs F.l 4).length ≤ 100000 := by rw [hF]; cases wh with | true => exact Nat.zero_le _ | false => exact hvl
  have hFr : ∀ p ∈ tabs F.l 4, p.2.1.refs.length ≤ 1000000 := by rw [hF]; cases wh with | true => exact fun p hp => by cases hp | false => exact hvr
  have hap := fun (X : World) (hX : Below w.heap.size w X) => vapply_any F va vd ad dr X (hFi.below hX) hFg hFl hFr ⟨ha.1.below hX, fun p hp => (ha.2 p hp).below hX⟩ (hd.below hX) hal hrl
  have hcl := fun (X : World) (hX : Below w.heap.size w X) (hn : ls.length ≤ 1000000) => zclone_any vl ls X (hl.below hX) hn
  obtain ⟨a0, c0, e0, -, -, -⟩ := (hV 0 (by omega)).1
  obtain ⟨a1, c1, e1, -, -, -⟩ := (hV 1 (by omega)).1
  obtain ⟨a2, c2, e2, -, -, -⟩ := (hV 2 (by omega)).1
  obtain ⟨a3, c3, e3, -, -, -⟩ := (hV 3 (by omega)).1
  obtain ⟨n0, hn0⟩ : ∃ q, q = (V.l 0).length := ⟨_, rfl⟩
  obtain ⟨n1, hn1⟩ : ∃ q, q = (V.l 1).length := ⟨_, rfl⟩
  obtain ⟨n2, hn2⟩ : ∃ q, q = (V.l 2).length := ⟨_, rfl⟩
  obtain ⟨n3, hn3⟩ : ∃ q, q = (V.l 3).length := ⟨_, rfl⟩
  rw [← hn0] at e0
  rw [← hn1] at e1
  rw [← hn2] at e2
  rw [← hn3] at e3
  rw [e0, e1, e2, e3]
  have HFc : Hid (F.cells = if wh then #[.slice none 0 0, .slice none 0 0, .slice none 0 0, .slice none 0 0] else #[.slice a0 n0 c0, .slice a1 n1 c1, .slice a2 n2 c2, .slice a3 n3 c3]) := Lib.hid (by rw [hF]; cases wh with | true => rfl | false => unfold Vn.cells; rw [if_neg (by decide), if_neg (by decide), e0, e1, e2, e3])
  obtain ⟨la, lc, rfl, -, -, -⟩ := id hl
  obtain ⟨da, dc, rfl, -, -, -⟩ := id hd
  obtain ⟨aa, ac, rfl, -, -, -⟩ := id ha.1
  obtain ⟨nl, hnl⟩ : ∃ q, q = ls.length := ⟨_, rfl⟩
  have Hnl := Lib.hid hnl
  rw [← hnl] at hck hcl ⊢
  clear hnl
  generalize dr.length = nd at *
  generalize ad.length = na at *
  have HF := Lib.hid hF
  have Hck := Lib.hid hck
  have Hap := Lib.hid hap
  have Hcl := Lib.hid hcl
  obtain ⟨rc, hrc⟩ : ∃ q : Rc, q = ⟨wh, s, ls, ad, dr⟩ := ⟨_, rfl⟩
  have Hrc := Lib.hid hrc
  rw [← hrc] at Hck ⊢
  clear e0 e1 e2 e3 hn0 hn1 hn2 hn3 hV hgood hvl hvr hl hd ha hrl hck hF hFi hFg hFl hFr hap hcl hrc
  go_enter Try.func23, Try.ntmps23
  go_upto_region 1 with fail
  have hA1 : Below w.heap.size w (w.alloc (.cells #[.slice a0 n0 c0, .slice a1 n1 c1, .slice a2 n2 c2, .slice a3 n3 c3, .int .i64 sq, .slice lva lvn lvc] 63)) := (Below.refl _ _).alloc (Nat.le_refl _) _
  have hK1 := blk_of_alloc w (.cells #[.slice a0 n0 c0, .slice a1 n1 c1, .slice a2 n2 c2, .slice a3 n3 c3, .int .i64 sq, .slice lva lvn lvc] 63)
  obtain ⟨Wa, hWa⟩ : ∃ q : World, q = w.alloc (.cells #[.slice a0 n0 c0, .slice a1 n1 c1, .slice a2 n2 c2, .slice a3 n3 c3, .int .i64 sq, .slice lva lvn lvc] 63) := ⟨_, rfl⟩
  have hs1 : Wa.heap.size = w.heap.size + 1 := by rw [hWa, World.size_alloc]
  rw [← hWa] at hA1 hK1 ⊢
  have hA2 : Below Wa.heap.size Wa (Wa.alloc (.cells #[.bool wh, .int .i64 s, .slice la nl lc, .slice aa na ac, .slice da nd dc] 27)) := (Below.refl _ _).alloc (Nat.le_refl _) _
  have hK2 := blk_of_alloc Wa (.cells #[.bool wh, .int .i64 s, .slice la nl lc, .slice aa na ac, .slice da nd dc] 27)
  obtain ⟨Wb, hWb⟩ : ∃ q : World, q = Wa.alloc (.cells #[.bool wh, .int .i64 s, .slice la nl lc, .slice aa na ac, .slice da nd dc] 27) := ⟨_, rfl⟩
  have hs2 : Wb.heap.size = w.heap.size + 1 + 1 := by rw [hWb, World.size_alloc, hs1]
  rw [← hWb] at hA2 hK2 ⊢
  have hA3 : Below Wb.heap.size Wb (Wb.alloc (.cells #[.slice none 0 0, .slice none 0 0, .slice none 0 0, .slice none 0 0, .int .i64 0, .slice none 0 0] 63)) := (Below.refl _ _).alloc (Nat.le_refl _) _
  have hK3 := blk_of_alloc Wb (.cells #[.slice none 0 0, .slice none 0 0, .slice none 0 0, .slice none 0 0, .int .i64 0, .slice none 0 0] 63)
  rw [hs1] at hK2
  rw [hs2] at hK3
  have HS := Lib.hid (blk_bels hA3 (blk_bels hA2 hK1))
  have HR := Lib.hid (blk_bels hA3 hK2)
  have HO := Lib.hid hK3
  have HB := Lib.hid (hA1.trans ((hA2.trans (hA3.mono hA2.size)).mono hA1.size))
  obtain ⟨ob, hob⟩ : ∃ q, q = w.heap.size + 1 + 1 := ⟨_, rfl⟩
  obtain ⟨rb, hrb⟩ : ∃ q, q = w.heap.size + 1 := ⟨_, rfl⟩
  obtain ⟨sb, hsb⟩ : ∃ q, q = w.heap.size := ⟨_, rfl⟩
  rw [← hob] at HO ⊢
  rw [← hrb] at HR ⊢
  rw [← hsb] at HS ⊢
  have Hob : Hid (ob = w.heap.size + 1 + 1 ∧ rb = w.heap.size + 1 ∧ sb = w.heap.size) := Lib.hid ⟨hob, hrb, hsb⟩
  clear hA1 hK1 hWa hs1 hA2 hK2 hWb hs2 hA3 hK3 hob hrb hsb
  generalize Wb.alloc (.cells #[.slice none 0 0, .slice none 0 0, .slice none 0 0, .slice none 0 0, .int .i64 0, .slice none 0 0] 63) = W at *
  have hr := fun j => cell_of_blk HR.out j
  have r0 : W.cell? ⟨rb, 0, none⟩ = some (.bool wh) := (hr 0).trans rfl
  have r1 : W.cell? ⟨rb, 1, none⟩ = some (.int .i64 s) := (hr 1).trans rfl
  have r2 : W.cell? ⟨rb, 2, none⟩ = some (.slice la nl lc) := (hr 2).trans rfl
  have r3 : W.cell? ⟨rb, 3, none⟩ = some (.slice aa na ac) := (hr 3).trans rfl
  have r4 : W.cell? ⟨rb, 4, none⟩ = some (.slice da nd dc) := (hr 4).trans rfl
  clear hr
  have Hc := Lib.hid (Hck.out W HB.out)
  go_wp2_with fail
  refine Hc.out.mono ?_
  rintro e w2 ⟨rfl, hb2⟩
  have HS2 := Lib.hid (blk_bels hb2 HS.out)
  have HR2 := Lib.hid (blk_bels hb2 HR.out)
  have HO2 := Lib.hid (blk_bels hb2 HO.out)
  have HB2 := Lib.hid (HB.out.trans (hb2.mono HB.out.size))
  clear hb2 r0 r1 r2 r3 r4 Hck Hc HS HR HO HB
  cases hok : recOk rc with
  | false =>
    have hc0 : chkR rc = 20 := by unfold chkR; rw [hok]; rfl
    rw [hc0]
    have Hok := Lib.hid hok
    clear hok hc0
    have hobx := HO2.out
    have Hres := Lib.hid (set6 hobx (.slice none 0 0) (.slice none 0 0) (.slice none 0 0) (.slice none 0 0) (.int .i64 0) (.slice none 0 0))
    have HBf := Lib.hid (set6_below HB2.out (show w.heap.size ≤ ob by have := Hob.out.1; omega) (.slice none 0 0) (.slice none 0 0) (.slice none 0 0) (.slice none 0 0) (.int .i64 0) (.slice none 0 0))
    have x0 := frozen_blkR hobx 0
    have x1 := frozen_blkR hobx 1
    have x2 := frozen_blkR hobx 2
    have x3 := frozen_blkR hobx 3
    have x4 := frozen_blkR hobx 4
    have x5 := frozen_blkR hobx 5
    have y0 : w2.cell? ⟨ob, 0, none⟩ = some (.slice none 0 0) := by rw [cell_blkR hobx]; rfl
    have y1 : w2.cell? ⟨ob, 1, none⟩ = some (.slice none 0 0) := by rw [cell_blkR hobx]; rfl
    have y2 : w2.cell? ⟨ob, 2, none⟩ = some (.slice none 0 0) := by rw [cell_blkR hobx]; rfl
    have y3 : w2.cell? ⟨ob, 3, none⟩ = some (.slice none 0 0) := by rw [cell_blkR hobx]; rfl
    have y4 : w2.cell? ⟨ob, 4, none⟩ = some (.int .i64 0) := by rw [cell_blkR hobx]; rfl
    have y5 : w2.cell? ⟨ob, 5, none⟩ = some (.slice none 0 0) := by rw [cell_blkR hobx]; rfl
    clear hobx
    go_wp2_with fail
    refine bodyPost_ret (v := .tuple #[.agg #[.slice none 0 0, .slice none 0 0, .slice none 0 0, .slice none 0 0, .int .i64 0, .slice none 0 0], .int .i64 20]) ?_ rfl ?_
    case _ =>
      have hres := Hres.out
      have z0 := cell_blkR hres 0
      have z1 := cell_blkR hres 1
      have z2 := cell_blkR hres 2
      have z3 := cell_blkR hres 3
      have z4 := cell_blkR hres 4
      have z5 := cell_blkR hres 5
      simp only [List.getElem?_toArray, List.getElem?_cons_zero, List.getElem?_cons_succ] at z0 z1 z2 z3 z4 z5
      generalize ((((((w2.setCell ⟨ob, 0, none⟩ (.slice none 0 0)).setCell ⟨ob, 1, none⟩ (.slice none 0 0)).setCell ⟨ob, 2, none⟩ (.slice none 0 0)).setCell ⟨ob, 3, none⟩ (.slice none 0 0)).setCell ⟨ob, 4, none⟩ (.int .i64 0)).setCell ⟨ob, 5, none⟩ (.slice none 0 0)) = F at *
      simp [results, Try.results23, go_sem, z0, z1, z2, z3, z4, z5]
    case _ =>
      exact stOut_bad Hok.out rfl HBf.out
  | true =>
    have hc0 : chkR rc = 0 := by unfold chkR; rw [hok]; rfl
    rw [hc0]
    have Hok := Lib.hid hok
    have Hlsn : Hid (nl ≤ 1000000) := Lib.hid (by
      have h1 := hok
      rw [Hrc.out] at h1
      have h2 := (recOk_is h1).ln
      rw [Hnl.out]
      dsimp only at h2
      omega)
    clear hok hc0
    have hA : Below w2.heap.size w2 (w2.alloc (.cells #[.slice a0 n0 c0, .slice a1 n1 c1, .slice a2 n2 c2, .slice a3 n3 c3] 61)) := (Below.refl _ _).alloc (Nat.le_refl _) _
    have HV3 := Lib.hid (blk_of_alloc w2 (.cells #[.slice a0 n0 c0, .slice a1 n1 c1, .slice a2 n2 c2, .slice a3 n3 c3] 61))
    have HR3 := Lib.hid (blk_bels hA HR2.out)
    have HO3 := Lib.hid (blk_bels hA HO2.out)
    have HB3 := Lib.hid (HB2.out.trans (hA.mono HB2.out.size))
    have hv0 := (cell_of_blk HS2.out 0).trans (show _ = some (.slice a0 n0 c0) from rfl)
    have hv1 := (cell_of_blk HS2.out 1).trans (show _ = some (.slice a1 n1 c1) from rfl)
    have hv2 := (cell_of_blk HS2.out 2).trans (show _ = some (.slice a2 n2 c2) from rfl)
    have hv3 := (cell_of_blk HS2.out 3).trans (show _ = some (.slice a3 n3 c3) from rfl)
    obtain ⟨fb, hfb⟩ : ∃ q, q = w2.heap.size := ⟨_, rfl⟩
    have Hfb := Lib.hid hfb
    have Hfl : Hid (rb < fb ∧ ob < fb ∧ w.heap.size ≤ fb) := Lib.hid (by rw [hfb]; exact ⟨blk_lt HR2.out, blk_lt HO2.out, HB2.out.size⟩)
    rw [← hfb] at HV3
    clear hA hfb
    go_upto_region 5 with fail
    rw [← Hfb.out]
    generalize w2.alloc (.cells #[.slice a0 n0 c0, .slice a1 n1 c1, .slice a2 n2 c2, .slice a3 n3 c3] 61) = W3 at *
    clear Hfb hv0 hv1 hv2 hv3 HS2 HR2 HO2 HB2
    have q0 := (cell_of_blk HR3.out 0).trans (show _ = some (.bool wh) from rfl)
    go_upto_if 19 with fail
    go_cut [] (fun wc => wc.heap[fb]? = some (.cells F.cells 61 (0, 0)) ∧ wc.heap[rb]? = some (.cells #[.bool wh, .int .i64 s, .slice la nl lc, .slice aa na ac, .slice da nd dc] 27 (0, 0)) ∧ wc.heap[ob]? = some (.cells #[.slice none 0 0, .slice none 0 0, .slice none 0 0, .slice none 0 0, .int .i64 0, .slice none 0 0] 63 (0, 0)) ∧ Below w.heap.size w wc)
    case first =>
      clear q0
      cases wh with
      | false =>
        go_wp2_with fail
        go_meet
        case rel => exact ⟨by rw [HFc.out]; exact HV3.out, HR3.out, HO3.out, HB3.out⟩
      | true =>
        have t0 := frozen_blkR HV3.out 0
        have t1 := frozen_blkR HV3.out 1
        have t2 := frozen_blkR HV3.out 2
        have t3 := frozen_blkR HV3.out 3
        have v0 : W3.cell? ⟨fb, 0, none⟩ = some (.slice a0 n0 c0) := by rw [cell_blkR HV3.out]; rfl
        have v1 : W3.cell? ⟨fb, 1, none⟩ = some (.slice a1 n1 c1) := by rw [cell_blkR HV3.out]; rfl
        have v2 : W3.cell? ⟨fb, 2, none⟩ = some (.slice a2 n2 c2) := by rw [cell_blkR HV3.out]; rfl
        have v3 : W3.cell? ⟨fb, 3, none⟩ = some (.slice a3 n3 c3) := by rw [cell_blkR HV3.out]; rfl
        go_wp2_with fail
        go_meet
        case rel =>
          refine ⟨?_, ?_, ?_, ?_⟩
          · rw [HFc.out, blk_setCellR (blk_setCellR (blk_setCellR (blk_setCellR HV3.out)))]; rfl
          · have hne : rb ≠ fb := by have := Hfl.out.1; omega
            exact (Below.heap_setCell _ ⟨fb, 3, none⟩ _ rb hne).trans ((Below.heap_setCell _ ⟨fb, 2, none⟩ _ rb hne).trans ((Below.heap_setCell _ ⟨fb, 1, none⟩ _ rb hne).trans ((Below.heap_setCell _ ⟨fb, 0, none⟩ _ rb hne).trans HR3.out)))
          · have hne : ob ≠ fb := by have := Hfl.out.2.1; omega
            exact (Below.heap_setCell _ ⟨fb, 3, none⟩ _ ob hne).trans ((Below.heap_setCell _ ⟨fb, 2, none⟩ _ ob hne).trans ((Below.heap_setCell _ ⟨fb, 1, none⟩ _ ob hne).trans ((Below.heap_setCell _ ⟨fb, 0, none⟩ _ ob hne).trans HO3.out)))
          · have hle := Hfl.out.2.2
            exact Below.setCell (p := ⟨fb, 3, none⟩) (Below.setCell (p := ⟨fb, 2, none⟩) (Below.setCell (p := ⟨fb, 1, none⟩) (Below.setCell (p := ⟨fb, 0, none⟩) HB3.out hle _) hle _) hle _) hle _
    case rest =>
      obtain ⟨hfv, hrv, hov, hbv⟩ := hcut
      have hcs : ∃ b0 m0 d0 b1 m1 d1 b2 m2 d2 b3 m3 d3, F.cells = #[.slice b0 m0 d0, .slice b1 m1 d1, .slice b2 m2 d2, .slice b3 m3 d3] := by
        rw [HFc.out]
        cases wh with
        | true => exact ⟨none, 0, 0, none, 0, 0, none, 0, 0, none, 0, 0, rfl⟩
        | false => exact ⟨a0, n0, c0, a1, n1, c1, a2, n2, c2, a3, n3, c3, rfl⟩
      obtain ⟨b0, m0, d0, b1, m1, d1, b2, m2, d2, b3, m3, d3, hcs⟩ := hcs
      have hap := Hap.out wc hbv
      rw [hcs] at hfv hap
      have HP := Lib.hid hap
      have HFv := Lib.hid hfv
      have HR4 := Lib.hid hrv
      have HO4 := Lib.hid hov
      have HB4 := Lib.hid hbv
      have v0 : wc.cell? ⟨fb, 0, none⟩ = some (.slice b0 m0 d0) := by rw [cell_blkR hfv]; rfl
      have v1 : wc.cell? ⟨fb, 1, none⟩ = some (.slice b1 m1 d1) := by rw [cell_blkR hfv]; rfl
      have v2 : wc.cell? ⟨fb, 2, none⟩ = some (.slice b2 m2 d2) := by rw [cell_blkR hfv]; rfl
      have v3 : wc.cell? ⟨fb, 3, none⟩ = some (.slice b3 m3 d3) := by rw [cell_blkR hfv]; rfl
      have r3 : wc.cell? ⟨rb, 3, none⟩ = some (.slice aa na ac) := by rw [cell_blkR hrv]; rfl
      have r4 : wc.cell? ⟨rb, 4, none⟩ = some (.slice da nd dc) := by rw [cell_blkR hrv]; rfl
      clear hfv hrv hov hbv hcs hap Hap q0 HV3 HR3 HO3 HB3
      go_wp2_with fail
      refine HP.out.mono ?_
      rintro e w5 ho5
      have ho6 := ho5.out
      unfold ApOut at ho6
      cases hq : applyP (lvOf F.l) dr (psM ad) with
      | none =>
        rw [hq] at ho6
        obtain ⟨rfl, hb5⟩ := ho6
        have Hno : Hid (applyP (lvOf (if rc.wh then Vn.none else V).l) rc.drop (psM rc.add) = none) := Lib.hid (by rw [Hrc.out, ← HF.out]; exact hq)
        have HO5 := Lib.hid (blk_bels hb5 HO4.out)
        have HB5 := Lib.hid (HB4.out.trans (hb5.mono HB4.out.size))
        have hA : Below w5.heap.size w5 (w5.alloc (.cells #[.slice none 0 0, .slice none 0 0, .slice none 0 0, .slice none 0 0] 61)) := (Below.refl _ _).alloc (Nat.le_refl _) _
        have HO6 := Lib.hid (blk_bels hA HO5.out)
        have HB6 := Lib.hid (HB5.out.trans (hA.mono HB5.out.size))
        clear hb5 ho5 hq hA HP v0 v1 v2 v3 r3 r4 HO4 HB4
        unfold Vn.cells
        dsimp only [Vn.none]
        go_upto_region 8 with fail
        generalize w5.alloc (.cells #[.slice none 0 0, .slice none 0 0, .slice none 0 0, .slice none 0 0] 61) = w6 at *
        have hobx := HO6.out
        have Hres := Lib.hid (set6 hobx (.slice none 0 0) (.slice none 0 0) (.slice none 0 0) (.slice none 0 0) (.int .i64 0) (.slice none 0 0))
        have HBf := Lib.hid (set6_below HB6.out (show w.heap.size ≤ ob by have := Hob.out.1; omega) (.slice none 0 0) (.slice none 0 0) (.slice none 0 0) (.slice none 0 0) (.int .i64 0) (.slice none 0 0))
        have x0 := frozen_blkR hobx 0
        have x1 := frozen_blkR hobx 1
        have x2 := frozen_blkR hobx 2
        have x3 := frozen_blkR hobx 3
        have x4 := frozen_blkR hobx 4
        have x5 := frozen_blkR hobx 5
        have y0 : w6.cell? ⟨ob, 0, none⟩ = some (.slice none 0 0) := by rw [cell_blkR hobx]; rfl
        have y1 : w6.cell? ⟨ob, 1, none⟩ = some (.slice none 0 0) := by rw [cell_blkR hobx]; rfl
        have y2 : w6.cell? ⟨ob, 2, none⟩ = some (.slice none 0 0) := by rw [cell_blkR hobx]; rfl
        have y3 : w6.cell? ⟨ob, 3, none⟩ = some (.slice none 0 0) := by rw [cell_blkR hobx]; rfl
        have y4 : w6.cell? ⟨ob, 4, none⟩ = some (.int .i64 0) := by rw [cell_blkR hobx]; rfl
        have y5 : w6.cell? ⟨ob, 5, none⟩ = some (.slice none 0 0) := by rw [cell_blkR hobx]; rfl
        clear hobx
        go_wp2_with fail
        refine bodyPost_ret (v := .tuple #[.agg #[.slice none 0 0, .slice none 0 0, .slice none 0 0, .slice none 0 0, .int .i64 0, .slice none 0 0], .int .i64 150]) ?_ rfl ?_
        case _ =>
          have hres := Hres.out
          have z0 := cell_blkR hres 0
          have z1 := cell_blkR hres 1
          have z2 := cell_blkR hres 2
          have z3 := cell_blkR hres 3
          have z4 := cell_blkR hres 4
          have z5 := cell_blkR hres 5
          simp only [List.getElem?_toArray, List.getElem?_cons_zero, List.getElem?_cons_succ] at z0 z1 z2 z3 z4 z5
          generalize ((((((w6.setCell ⟨ob, 0, none⟩ (.slice none 0 0)).setCell ⟨ob, 1, none⟩ (.slice none 0 0)).setCell ⟨ob, 2, none⟩ (.slice none 0 0)).setCell ⟨ob, 3, none⟩ (.slice none 0 0)).setCell ⟨ob, 4, none⟩ (.int .i64 0)).setCell ⟨ob, 5, none⟩ (.slice none 0 0)) = F at *
          simp [results, Try.results23, go_sem, z0, z1, z2, z3, z4, z5]
        case _ =>
          exact stOut_no Hok.out Hno.out rfl HBf.out
      | some L' =>
        rw [hq] at ho6
        obtain ⟨U, rfl, hU, hL, hb5⟩ := ho6
        have Hyes : Hid (applyP (lvOf (if rc.wh then Vn.none else V).l) rc.drop (psM rc.add) = some L') := Lib.hid (by rw [Hrc.out, ← HF.out]; exact hq)
        obtain ⟨f0, g0, k0, f1, g1, k1, f2, g2, k2, f3, g3, k3, e0, e1, e2, e3⟩ := vn_slices hU
        have HE := Lib.hid (And.intro e0 (And.intro e1 (And.intro e2 e3)))
        have hA : Below w5.heap.size w5 (w5.alloc (.cells #[.slice f0 g0 k0, .slice f1 g1 k1, .slice f2 g2 k2, .slice f3 g3 k3] 61)) := (Below.refl _ _).alloc (Nat.le_refl _) _
        have HU6 := Lib.hid (blk_of_alloc w5 (.cells #[.slice f0 g0 k0, .slice f1 g1 k1, .slice f2 g2 k2, .slice f3 g3 k3] 61))
        have HO6 := Lib.hid (blk_bels hA (blk_bels hb5 HO4.out))
        have HR6 := Lib.hid (blk_bels hA (blk_bels hb5 HR4.out))
        have hb54 := HB4.out.trans (hb5.mono HB4.out.size)
        have HB6 := Lib.hid (hb54.trans (hA.mono hb54.size))
        have HV6 := Lib.hid (OwnVn.mono (hU.below hA) HB4.out.size)
        have HL := Lib.hid hL
        have Hun : Hid (w5.heap.size ≠ ob ∧ rb ≠ ob) := Lib.hid (by have h1 := Hob.out; have h2 := blk_lt (blk_bels hb5 HO4.out); omega)
        obtain ⟨ub, hub⟩ : ∃ q, q = w5.heap.size := ⟨_, rfl⟩
        have Hub := Lib.hid hub
        rw [← hub] at HU6 Hun
        clear hb5 ho5 hq hA hU hL hb54 hub HP v0 v1 v2 v3 r3 r4 HO4 HR4 HB4
        unfold Vn.cells
        rw [e0, e1, e2, e3]
        clear e0 e1 e2 e3
        go_upto_region 8 with fail
        rw [← Hub.out]
        generalize w5.alloc (.cells #[.slice f0 g0 k0, .slice f1 g1 k1, .slice f2 g2 k2, .slice f3 g3 k3] 61) = w6 at *
        clear Hub
        have u0 : w6.cell? ⟨ub, 0, none⟩ = some (.slice f0 g0 k0) := by rw [cell_blkR HU6.out]; rfl
        have u1 : w6.cell? ⟨ub, 1, none⟩ = some (.slice f1 g1 k1) := by rw [cell_blkR HU6.out]; rfl
        have u2 : w6.cell? ⟨ub, 2, none⟩ = some (.slice f2 g2 k2) := by rw [cell_blkR HU6.out]; rfl
        have u3 : w6.cell? ⟨ub, 3, none⟩ = some (.slice f3 g3 k3) := by rw [cell_blkR HU6.out]; rfl
        have r1 : w6.cell? ⟨rb, 1, none⟩ = some (.int .i64 s) := by rw [cell_blkR HR6.out]; rfl
        have r2 : w6.cell? ⟨rb, 2, none⟩ = some (.slice la nl lc) := by rw [cell_blkR HR6.out]; rfl
        go_upto_region 10 with fail
        have hbd : Below w6.heap.size w6 w6.drew := (Below.refl _ _).drew
        refine wp_region_held_drew (S := fun V' => Hid (w6.heap.size ≤ V'.heap.size ∧ ∀ k, k < w6.heap.size → k ≠ ob → V'.heap[k]? = w6.heap[k]?)) (by kernel_rfl) (Lib.hid ⟨hbd.size, fun k hk _ => hbd.block k hk⟩) (fun hS0 => ?_)
        refine wpAnyH_take (i := 0) (oi := { dst := some 32, op := Op.load 61 (Operand.tmp 8), type := 61, pos := "manifest.go:165", after := #[], guard := none }) (v := ?_) rfl (by kernel_rfl) (by kernel_rfl) (by kernel_rfl) (fun _ _ _ h => h) (Or.inl ⟨by rfl, ?hy1⟩) hS0 ?_
        case hy1 => (intro V hSw; (try dsimp only at hSw); have q0 := (World.cell?_of_block (w := w6) (hSw.out.2 _ (block_lt_of_cell u0) (by have := Hun.out; dsimp only; omega))).trans u0; have q1 := (World.cell?_of_block (w := w6) (hSw.out.2 _ (block_lt_of_cell u1) (by have := Hun.out; dsimp only; omega))).trans u1; have q2 := (World.cell?_of_block (w := w6) (hSw.out.2 _ (block_lt_of_cell u2) (by have := Hun.out; dsimp only; omega))).trans u2; have q3 := (World.cell?_of_block (w := w6) (hSw.out.2 _ (block_lt_of_cell u3) (by have := Hun.out; dsimp only; omega))).trans u3; have q4 := (World.cell?_of_block (w := w6) (hSw.out.2 _ (block_lt_of_cell r1) (by have := Hun.out; dsimp only; omega))).trans r1; have q5 := (World.cell?_of_block (w := w6) (hSw.out.2 _ (block_lt_of_cell r2) (by have := Hun.out; dsimp only; omega))).trans r2; clear hSw; go_simp; try with_reducible rfl)
        try simp only [Act.put, List.setIfInBounds_toArray, List.set_cons_zero, List.set_cons_succ]
        refine wpAnyH_take (i := 1) (oi := { dst := some 33, op := Op.fieldAddr 27 (Operand.tmp 3) 1, type := 0, pos := "manifest.go:165", after := #[], guard := none }) (v := ?_) rfl (by kernel_rfl) (by kernel_rfl) (by kernel_rfl) (fun _ _ _ h => h) (Or.inl ⟨by rfl, ?hy2⟩) hS0 ?_
        case hy2 => (intro V hSw; (try dsimp only at hSw); clear hSw; go_simp; try with_reducible rfl)
        try simp only [Act.put, List.setIfInBounds_toArray, List.set_cons_zero, List.set_cons_succ]
        refine wpAnyH_take (i := 2) (oi := { dst := some 34, op := Op.load 3 (Operand.tmp 33), type := 3, pos := "manifest.go:165", after := #[{ on := 1, ground := Ground.data }], guard := none }) (v := ?_) rfl (by kernel_rfl) (by kernel_rfl) (by kernel_rfl) (fun _ _ _ h => h) (Or.inl ⟨by rfl, ?hy3⟩) hS0 ?_
        case hy3 => (intro V hSw; (try dsimp only at hSw); have q0 := (World.cell?_of_block (w := w6) (hSw.out.2 _ (block_lt_of_cell u0) (by have := Hun.out; dsimp only; omega))).trans u0; have q1 := (World.cell?_of_block (w := w6) (hSw.out.2 _ (block_lt_of_cell u1) (by have := Hun.out; dsimp only; omega))).trans u1; have q2 := (World.cell?_of_block (w := w6) (hSw.out.2 _ (block_lt_of_cell u2) (by have := Hun.out; dsimp only; omega))).trans u2; have q3 := (World.cell?_of_block (w := w6) (hSw.out.2 _ (block_lt_of_cell u3) (by have := Hun.out; dsimp only; omega))).trans u3; have q4 := (World.cell?_of_block (w := w6) (hSw.out.2 _ (block_lt_of_cell r1) (by have := Hun.out; dsimp only; omega))).trans r1; have q5 := (World.cell?_of_block (w := w6) (hSw.out.2 _ (block_lt_of_cell r2) (by have := Hun.out; dsimp only; omega))).trans r2; clear hSw; go_simp; try with_reducible rfl)
        try simp only [Act.put, List.setIfInBounds_toArray, List.set_cons_zero, List.set_cons_succ]
        refine wpAnyH_take (i := 3) (oi := { dst := some 35, op := Op.fieldAddr 27 (Operand.tmp 3) 2, type := 0, pos := "manifest.go:165", after := #[], guard := none }) (v := ?_) rfl (by kernel_rfl) (by kernel_rfl) (by kernel_rfl) (fun _ _ _ h => h) (Or.inl ⟨by rfl, ?hy4⟩) hS0 ?_
        case hy4 => (intro V hSw; (try dsimp only at hSw); clear hSw; go_simp; try with_reducible rfl)
        try simp only [Act.put, List.setIfInBounds_toArray, List.set_cons_zero, List.set_cons_succ]
        refine wpAnyH_take (i := 4) (oi := { dst := some 36, op := Op.load 22 (Operand.tmp 35), type := 22, pos := "manifest.go:165", after := #[{ on := 3, ground := Ground.data }], guard := none }) (v := ?_) rfl (by kernel_rfl) (by kernel_rfl) (by kernel_rfl) (fun _ _ _ h => h) (Or.inl ⟨by rfl, ?hy5⟩) hS0 ?_
        case hy5 => (intro V hSw; (try dsimp only at hSw); have q0 := (World.cell?_of_block (w := w6) (hSw.out.2 _ (block_lt_of_cell u0) (by have := Hun.out; dsimp only; omega))).trans u0; have q1 := (World.cell?_of_block (w := w6) (hSw.out.2 _ (block_lt_of_cell u1) (by have := Hun.out; dsimp only; omega))).trans u1; have q2 := (World.cell?_of_block (w := w6) (hSw.out.2 _ (block_lt_of_cell u2) (by have := Hun.out; dsimp only; omega))).trans u2; have q3 := (World.cell?_of_block (w := w6) (hSw.out.2 _ (block_lt_of_cell u3) (by have := Hun.out; dsimp only; omega))).trans u3; have q4 := (World.cell?_of_block (w := w6) (hSw.out.2 _ (block_lt_of_cell r1) (by have := Hun.out; dsimp only; omega))).trans r1; have q5 := (World.cell?_of_block (w := w6) (hSw.out.2 _ (block_lt_of_cell r2) (by have := Hun.out; dsimp only; omega))).trans r2; clear hSw; go_simp; try with_reducible rfl)
        try simp only [Act.put, List.setIfInBounds_toArray, List.set_cons_zero, List.set_cons_succ]
        refine wpAnyH_ready (rs := [5]) (by kernel_rfl) (by simp) (AllReadyH.cons rfl (fun K hK => ?_) AllReadyH.nil)
        go_simp
        refine (Hcl.out _ (HB6.out.trans (hbd.mono HB6.out.size)) Hlsn.out).mono ?_
        rintro e wv6 ⟨xv, rfl, hx6, hv6⟩
        have hxl6 := hx6
        rw [OwnZ, ← Hnl.out] at hxl6
        obtain ⟨xa, xc, rfl⟩ := own_slice hxl6
        have HX6 := Lib.hid (own_mono hx6 (HB6.out.trans (hbd.mono HB6.out.size)).size)
        have HE6 := Lib.hid (hbd.trans (hv6.mono hbd.size))
        have hS6 : Hid (w6.heap.size ≤ wv6.heap.size ∧ ∀ k, k < w6.heap.size → k ≠ ob → wv6.heap[k]? = w6.heap[k]?) := Lib.hid ⟨HE6.out.size, fun k hk _ => HE6.out.block k hk⟩
        clear hv6 hx6 hxl6
        refine hK.out _ _ hS6 (fun _ => ?_)
        clear hK K
        try simp only [Act.put, List.setIfInBounds_toArray, List.set_cons_zero, List.set_cons_succ]
        refine wpAnyH_take (i := 6) (oi := { dst := some 38, op := Op.build 63 #[(0, Operand.tmp 32), (1, Operand.tmp 34), (2, Operand.tmp 37)], type := 63, pos := "manifest.go:165", after := #[{ on := 0, ground := Ground.data }, { on := 2, ground := Ground.data }, { on := 5, ground := Ground.data }], guard := none }) (v := ?_) rfl (by kernel_rfl) (by kernel_rfl) (by kernel_rfl) (fun _ _ _ h => h) (Or.inl ⟨by rfl, ?hy7⟩) hS6 ?_
        case hy7 => (intro V hSw; (try dsimp only at hSw); clear hSw; go_simp; try with_reducible rfl)
        try simp only [Act.put, List.setIfInBounds_toArray, List.set_cons_zero, List.set_cons_succ]
        refine wpAnyH_ready (rs := [7]) (by kernel_rfl) (by simp) (AllReadyH.cons rfl (fun K hK => ?_) AllReadyH.nil)
        have hobx := blk_bels HE6.out HO6.out
        have x0 := frozen_blkR hobx 0
        have x1 := frozen_blkR hobx 1
        have x2 := frozen_blkR hobx 2
        have x3 := frozen_blkR hobx 3
        have x4 := frozen_blkR hobx 4
        have x5 := frozen_blkR hobx 5
        have y0 : wv6.cell? ⟨ob, 0, none⟩ = some (.slice none 0 0) := by rw [cell_blkR hobx]; rfl
        have y1 : wv6.cell? ⟨ob, 1, none⟩ = some (.slice none 0 0) := by rw [cell_blkR hobx]; rfl
        have y2 : wv6.cell? ⟨ob, 2, none⟩ = some (.slice none 0 0) := by rw [cell_blkR hobx]; rfl
        have y3 : wv6.cell? ⟨ob, 3, none⟩ = some (.slice none 0 0) := by rw [cell_blkR hobx]; rfl
        have y4 : wv6.cell? ⟨ob, 4, none⟩ = some (.int .i64 0) := by rw [cell_blkR hobx]; rfl
        have y5 : wv6.cell? ⟨ob, 5, none⟩ = some (.slice none 0 0) := by rw [cell_blkR hobx]; rfl
        have HBw := Lib.hid (HB6.out.trans (HE6.out.mono HB6.out.size))
        have Hres := Lib.hid (set6 hobx (.slice f0 g0 k0) (.slice f1 g1 k1) (.slice f2 g2 k2) (.slice f3 g3 k3) (.int .i64 s) (.slice xa nl xc))
        have HBf := Lib.hid (set6_below HBw.out (show w.heap.size ≤ ob by have := Hob.out.1; omega) (.slice f0 g0 k0) (.slice f1 g1 k1) (.slice f2 g2 k2) (.slice f3 g3 k3) (.int .i64 s) (.slice xa nl xc))
        have HVf := Lib.hid (OwnVn.other (HV6.out.below HE6.out) hobx (by decide) (by decide) (fun k hk => set6_oth wv6 ob (.slice f0 g0 k0) (.slice f1 g1 k1) (.slice f2 g2 k2) (.slice f3 g3 k3) (.int .i64 s) (.slice xa nl xc) k hk))
        have HXf := Lib.hid (own_other HX6.out hobx (by decide) (fun k hk => set6_oth wv6 ob (.slice f0 g0 k0) (.slice f1 g1 k1) (.slice f2 g2 k2) (.slice f3 g3 k3) (.int .i64 s) (.slice xa nl xc) k hk))
        have hSz8 := Lib.hid (And.intro (Nat.le_trans HE6.out.size (set6_below (Below.refl w.heap.size wv6) (show w.heap.size ≤ ob by have := Hob.out.1; omega) (.slice f0 g0 k0) (.slice f1 g1 k1) (.slice f2 g2 k2) (.slice f3 g3 k3) (.int .i64 s) (.slice xa nl xc)).size) (fun (k : Nat) (hk : k < w6.heap.size) (hne : k ≠ ob) => (set6_oth wv6 ob (.slice f0 g0 k0) (.slice f1 g1 k1) (.slice f2 g2 k2) (.slice f3 g3 k3) (.int .i64 s) (.slice xa nl xc) k hne).trans (HE6.out.block k hk)))
        clear hobx
        go_simp
        refine hK.out _ _ hSz8 (fun _ => ?_)
        clear hK K
        try simp only [Act.put, List.setIfInBounds_toArray, List.set_cons_zero, List.set_cons_succ]
        refine wpAnyH_ready (rs := [8]) (by kernel_rfl) (by simp) (AllReadyH.cons rfl (fun K hK => ?_) AllReadyH.nil)
        go_simp
        refine hK.out _ _ hSz8 (fun _ => ?_)
        clear hK K
        try simp only [Act.put, List.setIfInBounds_toArray, List.set_cons_zero, List.set_cons_succ]
        refine wpAnyH_done (by kernel_rfl) ?_ _
        go_wp2_with fail
        refine bodyPost_ret (v := .tuple #[.agg #[.slice f0 g0 k0, .slice f1 g1 k1, .slice f2 g2 k2, .slice f3 g3 k3, .int .i64 s, .slice xa nl xc], .int .i64 0]) ?_ rfl ?_
        case _ =>
          have hres := Hres.out
          have z0 := cell_blkR hres 0
          have z1 := cell_blkR hres 1
          have z2 := cell_blkR hres 2
          have z3 := cell_blkR hres 3
          have z4 := cell_blkR hres 4
          have z5 := cell_blkR hres 5
          simp only [List.getElem?_toArray, List.getElem?_cons_zero, List.getElem?_cons_succ] at z0 z1 z2 z3 z4 z5
          generalize ((((((wv6.setCell ⟨ob, 0, none⟩ (.slice f0 g0 k0)).setCell ⟨ob, 1, none⟩ (.slice f1 g1 k1)).setCell ⟨ob, 2, none⟩ (.slice f2 g2 k2)).setCell ⟨ob, 3, none⟩ (.slice f3 g3 k3)).setCell ⟨ob, 4, none⟩ (.int .i64 s)).setCell ⟨ob, 5, none⟩ (.slice xa nl xc)) = F at *
          simp [results, Try.results23, go_sem, z0, z1, z2, z3, z4, z5]
        case _ =>
          exact stOut_yes Hok.out Hyes.out U (.slice xa nl xc) (by rw [HE.out.1, HE.out.2.1, HE.out.2.2.1, HE.out.2.2.2, Hrc.out]) HVf.out HL.out (by rw [Hrc.out]; exact HXf.out) HBf.out
end Go.Proofs.Ythjjelomlgmllaa.Tithe
