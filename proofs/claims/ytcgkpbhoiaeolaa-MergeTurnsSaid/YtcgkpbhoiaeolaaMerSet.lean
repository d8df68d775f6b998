/- The cursor: set. -/
import Derived.Test.YtcgkpbhoiaeolaaMerFind
import Derived.Test.YtcgkpbhoiaeolaaRangeK
namespace Go.Proofs.Ytcgkpbhoiaeolaa.Tithe
open Go.RowKit Go.Sort
set_option linter.unusedVariables false
theorem cell_of_blk {w : World} {b : Nat} {cs : Array Value} {t : TypeId} {fr : Nat × Nat} (h : w.heap[b]? = some (.cells cs t fr)) (i : Nat) : w.cell? ⟨b, i, none⟩ = cs[i]? := by
  simp [World.cell?, h]
theorem frozen_of_blk {w : World} {b : Nat} {cs : Array Value} {t : TypeId} (h : w.heap[b]? = some (.cells cs t (0, 0))) (i : Nat) : w.frozen? ⟨b, i, none⟩ = false := by
  simp [World.frozen?, h]
def curCells (rv : Value) (x : It) (ok : Bool) : Array Value := #[rv, .int .i64 x.1, .int .i64 x.2, .bool ok]
/-- a cursor: its block; what it reads lies in an older world -/
structure IsCur (w0 w : World) (cb : Nat) (rv : Value) (ls : List (List It)) (x : It) (ok : Bool) : Prop where
  its : IsIts w0 rv ls
  below : Below w0.heap.size w0 w
  old : w0.heap.size ≤ cb
  blk : w.heap[cb]? = some (.cells (curCells rv x ok) 64 (0, 0))
/-- what one run hands over -/
def candL (p : List It → Int) (r : List It) : Option It := if p r < 0 then none else r[(p r).toNat]?
def setStep (ah : Int → Int → Bool) (s : It × Bool) (c : Option It) : It × Bool :=
  match c with
  | none => s
  | some q => if !s.2 || ah q.1 s.1.1 then (q, true) else s
def setL (p : List It → Int) (ah : Int → Int → Bool) (ls : List (List It)) : It × Bool := (ls.map (candL p)).foldl (setStep ah) ((0, 0), false)
theorem setL_take {p : List It → Int} {ah : Int → Int → Bool} {ls : List (List It)} {k : Nat} (h : k < ls.length) : setL p ah (ls.take (k + 1)) = setStep ah (setL p ah (ls.take k)) (candL p (ls.getD k [])) := by
  unfold setL
  rw [List.take_succ_eq_append_getElem h, List.map_append, List.foldl_append, List.getD_eq_getElem?_getD, List.getElem?_eq_getElem h]; rfl
theorem setL_start {p : List It → Int} {ah : Int → Int → Bool} {ls : List (List It)} : setL p ah (ls.take 0) = ((0, 0), false) := rfl
theorem grown_setCell' (w : World) (g i : Nat) (v : Value) : w.grownBy (w.setCell ⟨g, i, none⟩ v) (some g) :=
  ⟨rfl, rfl, rfl, by simp [World.setCell], fun k _ hn => Below.heap_setCell w _ _ k (fun e => hn (by rw [e]))⟩
theorem blk_setCell {V : World} {b i : Nat} {cs : Array Value} {ty : TypeId} {fr : Nat × Nat} {v : Value} (h : V.heap[b]? = some (.cells cs ty fr)) : (V.setCell ⟨b, i, none⟩ v).heap[b]? = some (.cells (cs.setIfInBounds i v) ty fr) := by
  simp [World.setCell, Array.getElem?_modify, h]
theorem grown_of_below {w w' : World} {row : Option Nat} (h : Below w.heap.size w w') : w.grownBy w' row := ⟨h.os, h.tape, h.output, h.size, fun k hk _ => h.block k hk⟩
theorem grown_drewN {w w' : World} {row : Option Nat} (h : w.grownBy w' row) (n : Nat) : w.grownBy (w'.drewN n) row := ⟨h.os, h.tape, h.output, h.size, h.block⟩
theorem cur_store {W : World} {cb : Nat} {rv : Value} {s : It} {ok : Bool} {t : TypeId} (x : It) (h : W.heap[cb]? = some (.cells (curCells rv s ok) t (0, 0))) (qx qy : Int) : (((W.setCell ⟨cb, 1, none⟩ (.int .i64 qx)).setCell ⟨cb, 2, none⟩ (.int .i64 qy)).setCell ⟨cb, 3, none⟩ (.bool true)).heap[cb]? = some (.cells (curCells rv (qx, qy) true) t (0, 0)) := by
  rw [blk_setCell (blk_setCell (blk_setCell h))]; rfl
set_option maxHeartbeats 800000 in
theorem set_any (pf af : Nat) (p : List It → Int) (ah : Int → Int → Bool) (w0 w : World) (cb : Nat) (rv : Value) (ls : List (List It)) (x : It) (ok : Bool) (hcur : IsCur w0 w cb rv ls x ok)
    (hpf : ∀ (args : Array Value) (W : World), (callFunc pf args).run Try.prog W = .ok (.enter pf args) W) (haf : ∀ (args : Array Value) (W : World), (callFunc af args).run Try.prog W = .ok (.enter af args) W)
    (hp : ∀ (W : World) (v : Value) (r : List It), w.grownBy W (some cb) → r ∈ ls → IsIt W v r → Calls Try.prog pf #[v] W fun e w' => e = .returned (.int .i64 (p r)) ∧ Below W.heap.size W w')
    (hah : ∀ (W : World) (a b : Int), Calls Try.prog af #[.int .i64 a, .int .i64 b] W fun e w' => e = .returned (.bool (ah a b)) ∧ W = w') :
    Calls Try.prog 36 #[.pointer (some ⟨cb, 0, none⟩), .func (.func pf) #[] #[], .func (.func af) #[] #[]] w fun e w' => e = .returned (.bool (setL p ah ls).2) ∧ IsCur w0 w' cb rv ls (setL p ah ls).1 (setL p ah ls).2 ∧ w.grownBy w' (some cb) := by
  obtain ⟨its, hb0, hold, hblk⟩ := hcur
  obtain ⟨x1, x2⟩ := x
  have k0 : w.cell? ⟨cb, 0, none⟩ = some rv := by rw [cell_of_blk hblk]; rfl
  have k1 : w.cell? ⟨cb, 1, none⟩ = some (.int .i64 x1) := by rw [cell_of_blk hblk]; rfl
  have k2 : w.cell? ⟨cb, 2, none⟩ = some (.int .i64 x2) := by rw [cell_of_blk hblk]; rfl
  have k3 : w.cell? ⟨cb, 3, none⟩ = some (.bool ok) := by rw [cell_of_blk hblk]; rfl
  have f0 : w.frozen? ⟨cb, 0, none⟩ = false := frozen_of_blk hblk 0
  have f1 : w.frozen? ⟨cb, 1, none⟩ = false := frozen_of_blk hblk 1
  have f2 : w.frozen? ⟨cb, 2, none⟩ = false := frozen_of_blk hblk 2
  have f3 : w.frozen? ⟨cb, 3, none⟩ = false := frozen_of_blk hblk 3
  have Hp := Lib.hid hp
  have Hah := Lib.hid hah
  have Hb0 := Lib.hid hb0
  have Hits := Lib.hid its
  have Hblk := Lib.hid hblk
  obtain ⟨a, c, rfl, -, -, -⟩ := id its
  obtain ⟨-, hc, hm, hx⟩ := its.at
  have Hx := Lib.hid hx
  clear hp hah hb0 its hblk hx
  obtain ⟨n, hn⟩ : ∃ n, n = ls.length := ⟨_, rfl⟩
  rw [← hn] at hc Hx k0
  have Hn := Lib.hid hn
  clear hn
  go_enter Try.func36, Try.ntmps36
  go_wp2_with fail
  have h0 := setL_start (p := p) (ah := ah) (ls := ls)
  have hstart : ∀ W : World, W = ((w.setCell ⟨cb, 1, none⟩ (.int .i64 0)).setCell ⟨cb, 2, none⟩ (.int .i64 0)).setCell ⟨cb, 3, none⟩ (.bool false) → W.heap[cb]? = some (.cells (curCells (.slice a n c) (0, 0) false) 64 (0, 0)) ∧ w.grownBy W (some cb) := by
    rintro W rfl
    refine ⟨?_, ((grown_setCell' _ _ _ _).trans (grown_setCell' _ _ _ _)).trans (grown_setCell' _ _ _ _)⟩
    rw [blk_setCell (blk_setCell (blk_setCell Hblk.out)), Hn.out]; rfl
  have Hstart := Lib.hid hstart
  have H0 := Lib.hid h0
  clear hstart h0
  go_loopw [22] (fun i wr => ∃ k : Nat, k ≤ n ∧ i = .int .i64 k ∧ wr.heap[cb]? = some (.cells (curCells (.slice a n c) (setL p ah (ls.take k)).1 (setL p ah (ls.take k)).2) 64 (0, 0)) ∧ w.grownBy wr (some cb)) (fun i _ => n - (intOf i).toNat)
  case atStart => exact ⟨0, Nat.zero_le _, rfl, by rw [H0.out]; exact (Hstart.out _ rfl).1, (Hstart.out _ rfl).2⟩
  case round =>
    obtain ⟨k, hk, rfl, hblk, hg⟩ := hrel
    have hb : Below w0.heap.size w0 wr := Hb0.out.trans (grown_below hg hold Hb0.out.size)
    have hwr := hb.size
    by_cases hlt : k < n
    · obtain ⟨b, off, rfl, hcell⟩ := Hx.out (by omega)
      obtain ⟨ka, kn, kc, c1, hrow⟩ := hcell k hlt
      have hstep := setL_take (p := p) (ah := ah) (ls := ls) (k := k) (by rw [← Hn.out]; exact hlt)
      have hmem : ls.getD k [] ∈ ls := by
        have hk' : k < ls.length := by rw [← Hn.out]; exact hlt
        rw [List.getD_eq_getElem?_getD, List.getElem?_eq_getElem hk']; exact List.getElem_mem _
      have d1 := (hb.cell (block_lt_of_cell c1)).trans c1
      have hrow' := hrow.below hb
      obtain ⟨hkn, hkc, hkm, hrx⟩ := hrow.at
      generalize setL p ah (ls.take k) = s at *
      obtain ⟨⟨sx, sy⟩, sv⟩ := s
      generalize ls.getD k [] = r at *
      have hcall := Hp.out wr _ r hg hmem hrow'
      have hcand : candL p r = if p r < 0 then none else r[(p r).toNat]? := rfl
      generalize p r = i at *
      have Hcall := Lib.hid hcall
      have Hstep := Lib.hid hstep
      have Hcand := Lib.hid hcand
      have Hkn := Lib.hid hkn
      have Hrx := Lib.hid hrx
      have Hg := Lib.hid hg
      have Hb := Lib.hid hb
      have hblk' := Lib.hid hblk
      clear hcall hstep hcand hmem hcell c1 hrow hrow' hkn hrx hg hb hblk
      go_wp2_with fail
      refine Hcall.out.mono ?_
      rintro e w5 ⟨rfl, hb5⟩
      have hcb := (Array.getElem?_eq_some_iff.1 hblk'.out).1
      have hw5 := hb5.size
      have Hg5 := Lib.hid (Hg.out.trans (grown_of_below hb5))
      have Hblk5 : Hid (w5.heap[cb]? = some (.cells (curCells (.slice (some ⟨b, off, none⟩) n c) (sx, sy) sv) 64 (0, 0))) := (hb5.block cb hcb).trans hblk'.out
      have Hb5 := Lib.hid (Hb.out.trans (hb5.mono hwr))
      clear hb5 Hcall
      by_cases hi0 : i < 0
      · have hfin : Hid (setL p ah (ls.take (k + 1)) = ((sx, sy), sv)) := by show _ = _; rw [Hstep.out, Hcand.out, if_pos hi0]; rfl
        go_wp2
        go_roundw
        case rel => exact ⟨k + 1, by omega, by go_num, by rw [hfin.out]; exact Hblk5.out, Hg5.out⟩
        case measure => simp [intOf]; omega
      · obtain ⟨m, rfl⟩ : ∃ m : Nat, i = m := ⟨i.toNat, by omega⟩
        by_cases him : kn ≤ m
        · have hfin : Hid (setL p ah (ls.take (k + 1)) = ((sx, sy), sv)) := by
            show _ = _
            rw [Hstep.out, Hcand.out, if_neg hi0, Int.toNat_natCast, List.getElem?_eq_none (by rw [← Hkn.out]; exact him)]; rfl
          go_wp2
          go_roundw
          case rel => exact ⟨k + 1, by omega, by go_num, by rw [hfin.out]; exact Hblk5.out, Hg5.out⟩
          case measure => simp [intOf]; omega
        · obtain ⟨b2, off2, rfl, hc2⟩ := Hrx.out (by omega)
          obtain ⟨g1, g2⟩ := hc2 m (by omega)
          have hml : m < r.length := by rw [← Hkn.out]; omega
          have hq : r[m]? = some (r.getD m (0, 0)) := by rw [List.getD_eq_getElem?_getD, List.getElem?_eq_getElem hml]; rfl
          generalize r.getD m (0, 0) = q at *
          obtain ⟨qx, qy⟩ := q
          have e1 : w5.cell? ⟨b2, off2 + m * 2, none⟩ = some (.int .i64 qx) := (Hb5.out.cell (block_lt_of_cell g1)).trans g1
          have e2 : w5.cell? ⟨b2, off2 + m * 2 + 1, none⟩ = some (.int .i64 qy) := (Hb5.out.cell (block_lt_of_cell g2)).trans g2
          have m1 : w5.cell? ⟨cb, 1, none⟩ = some (.int .i64 sx) := by rw [cell_of_blk Hblk5.out]; rfl
          have m2 : w5.cell? ⟨cb, 2, none⟩ = some (.int .i64 sy) := by rw [cell_of_blk Hblk5.out]; rfl
          have m3 : w5.cell? ⟨cb, 3, none⟩ = some (.bool sv) := by rw [cell_of_blk Hblk5.out]; rfl
          have n1 : w5.frozen? ⟨cb, 1, none⟩ = false := frozen_of_blk Hblk5.out 1
          have n2 : w5.frozen? ⟨cb, 2, none⟩ = false := frozen_of_blk Hblk5.out 2
          have n3 : w5.frozen? ⟨cb, 3, none⟩ = false := frozen_of_blk Hblk5.out 3
          have Hs2 : Hid (setL p ah (ls.take (k + 1)) = if !sv || ah qx sx then ((qx, qy), true) else ((sx, sy), sv)) := by
            show _ = _
            rw [Hstep.out, Hcand.out, if_neg hi0, Int.toNat_natCast, hq]; rfl
          clear hc2 g1 g2 hq hml
          cases sv with
          | false =>
            have hfin : Hid (setL p ah (ls.take (k + 1)) = ((qx, qy), true)) := Hs2.out
            go_wp2
            go_quiet (fail)
            go_wp2
            go_roundw
            case rel => exact ⟨k + 1, by omega, by go_num, by rw [hfin.out]; exact cur_store (0, 0) (show (w5.drewN nq).heap[cb]? = _ from Hblk5.out) _ _, (grown_drewN Hg5.out nq).trans (((grown_setCell' _ _ _ _).trans (grown_setCell' _ _ _ _)).trans (grown_setCell' _ _ _ _))⟩
            case measure => simp [intOf]; omega
          | true =>
            have hcall := fun W => Hah.out W qx sx
            generalize ah qx sx = A at *
            have Hcall2 := Lib.hid hcall
            clear hcall
            cases A with
            | false =>
              have hfin : Hid (setL p ah (ls.take (k + 1)) = ((sx, sy), true)) := Hs2.out
              go_wp2
              go_quiet ((refine Calls.quiet_of_same ((Hcall2.out _).mono fun _ _ h => ⟨h.1, h.2.symm⟩)))
              go_wp2
              go_roundw
              case rel => exact ⟨k + 1, by omega, by go_num, by rw [hfin.out]; exact Hblk5.out, grown_drewN Hg5.out nq⟩
              case measure => simp [intOf]; omega
            | true =>
              have hfin : Hid (setL p ah (ls.take (k + 1)) = ((qx, qy), true)) := Hs2.out
              go_wp2
              go_quiet ((refine Calls.quiet_of_same ((Hcall2.out _).mono fun _ _ h => ⟨h.1, h.2.symm⟩)))
              go_wp2
              go_roundw
              case rel => exact ⟨k + 1, by omega, by go_num, by rw [hfin.out]; exact cur_store (0, 0) (show (w5.drewN nq).heap[cb]? = _ from Hblk5.out) _ _, (grown_drewN Hg5.out nq).trans (((grown_setCell' _ _ _ _).trans (grown_setCell' _ _ _ _)).trans (grown_setCell' _ _ _ _))⟩
              case measure => simp [intOf]; omega
    · obtain rfl : k = n := by omega
      have htk : ls.take k = ls := by rw [Hn.out, List.take_length]
      rw [htk] at hblk
      have v3 : wr.cell? ⟨cb, 3, none⟩ = some (.bool (setL p ah ls).2) := by rw [cell_of_blk hblk]; rfl
      have Hcur : Hid (IsCur w0 wr cb (.slice a k c) ls (setL p ah ls).1 (setL p ah ls).2) := ⟨by have := Hits.out; rw [← Hn.out] at this; exact this, hb, hold, hblk⟩
      have Hg := Lib.hid hg
      clear hblk hg hb htk
      go_wp2
      go_ret
      refine ⟨rfl, ?_, Hg.out⟩
      have := Hcur.out
      rw [Hn.out] at this
      exact this
set_option maxHeartbeats 800000 in
theorem set_cap (kb pf af : Nat) (p : List It → Int) (ah : Int → Int → Bool) (w0 w : World) (cb : Nat) (rv : Value) (ls : List (List It)) (x : It) (ok : Bool) (hcur : IsCur w0 w cb rv ls x ok)
    (hpf : ∀ (args : Array Value) (W : World), (callFunc pf args).run Try.prog W = .ok (.enter pf args) W) (haf : ∀ (args : Array Value) (W : World), (callFunc af args).run Try.prog W = .ok (.enter af args) W)
    (hp : ∀ (W : World) (v : Value) (r : List It), w.grownBy W (some cb) → r ∈ ls → IsIt W v r → Calls Try.prog pf #[v, .pointer (some ⟨kb, 0, none⟩)] W fun e w' => e = .returned (.int .i64 (p r)) ∧ Below W.heap.size W w')
    (hah : ∀ (W : World) (a b : Int), Calls Try.prog af #[.int .i64 a, .int .i64 b] W fun e w' => e = .returned (.bool (ah a b)) ∧ W = w') :
    Calls Try.prog 36 #[.pointer (some ⟨cb, 0, none⟩), .func (.func pf) #[] #[.pointer (some ⟨kb, 0, none⟩)], .func (.func af) #[] #[]] w fun e w' => e = .returned (.bool (setL p ah ls).2) ∧ IsCur w0 w' cb rv ls (setL p ah ls).1 (setL p ah ls).2 ∧ w.grownBy w' (some cb) := by
  obtain ⟨its, hb0, hold, hblk⟩ := hcur
  obtain ⟨x1, x2⟩ := x
  have k0 : w.cell? ⟨cb, 0, none⟩ = some rv := by rw [cell_of_blk hblk]; rfl
  have k1 : w.cell? ⟨cb, 1, none⟩ = some (.int .i64 x1) := by rw [cell_of_blk hblk]; rfl
  have k2 : w.cell? ⟨cb, 2, none⟩ = some (.int .i64 x2) := by rw [cell_of_blk hblk]; rfl
  have k3 : w.cell? ⟨cb, 3, none⟩ = some (.bool ok) := by rw [cell_of_blk hblk]; rfl
  have f0 : w.frozen? ⟨cb, 0, none⟩ = false := frozen_of_blk hblk 0
  have f1 : w.frozen? ⟨cb, 1, none⟩ = false := frozen_of_blk hblk 1
  have f2 : w.frozen? ⟨cb, 2, none⟩ = false := frozen_of_blk hblk 2
  have f3 : w.frozen? ⟨cb, 3, none⟩ = false := frozen_of_blk hblk 3
  have Hp := Lib.hid hp
  have Hah := Lib.hid hah
  have Hb0 := Lib.hid hb0
  have Hits := Lib.hid its
  have Hblk := Lib.hid hblk
  obtain ⟨a, c, rfl, -, -, -⟩ := id its
  obtain ⟨-, hc, hm, hx⟩ := its.at
  have Hx := Lib.hid hx
  clear hp hah hb0 its hblk hx
  obtain ⟨n, hn⟩ : ∃ n, n = ls.length := ⟨_, rfl⟩
  rw [← hn] at hc Hx k0
  have Hn := Lib.hid hn
  clear hn
  go_enter Try.func36, Try.ntmps36
  go_wp2_with fail
  have h0 := setL_start (p := p) (ah := ah) (ls := ls)
  have hstart : ∀ W : World, W = ((w.setCell ⟨cb, 1, none⟩ (.int .i64 0)).setCell ⟨cb, 2, none⟩ (.int .i64 0)).setCell ⟨cb, 3, none⟩ (.bool false) → W.heap[cb]? = some (.cells (curCells (.slice a n c) (0, 0) false) 64 (0, 0)) ∧ w.grownBy W (some cb) := by
    rintro W rfl
    refine ⟨?_, ((grown_setCell' _ _ _ _).trans (grown_setCell' _ _ _ _)).trans (grown_setCell' _ _ _ _)⟩
    rw [blk_setCell (blk_setCell (blk_setCell Hblk.out)), Hn.out]; rfl
  have Hstart := Lib.hid hstart
  have H0 := Lib.hid h0
  clear hstart h0
  go_loopw [22] (fun i wr => ∃ k : Nat, k ≤ n ∧ i = .int .i64 k ∧ wr.heap[cb]? = some (.cells (curCells (.slice a n c) (setL p ah (ls.take k)).1 (setL p ah (ls.take k)).2) 64 (0, 0)) ∧ w.grownBy wr (some cb)) (fun i _ => n - (intOf i).toNat)
  case atStart => exact ⟨0, Nat.zero_le _, rfl, by rw [H0.out]; exact (Hstart.out _ rfl).1, (Hstart.out _ rfl).2⟩
  case round =>
    obtain ⟨k, hk, rfl, hblk, hg⟩ := hrel
    have hb : Below w0.heap.size w0 wr := Hb0.out.trans (grown_below hg hold Hb0.out.size)
    have hwr := hb.size
    by_cases hlt : k < n
    · obtain ⟨b, off, rfl, hcell⟩ := Hx.out (by omega)
      obtain ⟨ka, kn, kc, c1, hrow⟩ := hcell k hlt
      have hstep := setL_take (p := p) (ah := ah) (ls := ls) (k := k) (by rw [← Hn.out]; exact hlt)
      have hmem : ls.getD k [] ∈ ls := by
        have hk' : k < ls.length := by rw [← Hn.out]; exact hlt
        rw [List.getD_eq_getElem?_getD, List.getElem?_eq_getElem hk']; exact List.getElem_mem _
      have d1 := (hb.cell (block_lt_of_cell c1)).trans c1
      have hrow' := hrow.below hb
      obtain ⟨hkn, hkc, hkm, hrx⟩ := hrow.at
      generalize setL p ah (ls.take k) = s at *
      obtain ⟨⟨sx, sy⟩, sv⟩ := s
      generalize ls.getD k [] = r at *
      have hcall := Hp.out wr _ r hg hmem hrow'
      have hcand : candL p r = if p r < 0 then none else r[(p r).toNat]? := rfl
      generalize p r = i at *
      have Hcall := Lib.hid hcall
      have Hstep := Lib.hid hstep
      have Hcand := Lib.hid hcand
      have Hkn := Lib.hid hkn
      have Hrx := Lib.hid hrx
      have Hg := Lib.hid hg
      have Hb := Lib.hid hb
      have hblk' := Lib.hid hblk
      clear hcall hstep hcand hmem hcell c1 hrow hrow' hkn hrx hg hb hblk
      go_wp2_with fail
      refine Hcall.out.mono ?_
      rintro e w5 ⟨rfl, hb5⟩
      have hcb := (Array.getElem?_eq_some_iff.1 hblk'.out).1
      have hw5 := hb5.size
      have Hg5 := Lib.hid (Hg.out.trans (grown_of_below hb5))
      have Hblk5 : Hid (w5.heap[cb]? = some (.cells (curCells (.slice (some ⟨b, off, none⟩) n c) (sx, sy) sv) 64 (0, 0))) := (hb5.block cb hcb).trans hblk'.out
      have Hb5 := Lib.hid (Hb.out.trans (hb5.mono hwr))
      clear hb5 Hcall
      by_cases hi0 : i < 0
      · have hfin : Hid (setL p ah (ls.take (k + 1)) = ((sx, sy), sv)) := by show _ = _; rw [Hstep.out, Hcand.out, if_pos hi0]; rfl
        go_wp2
        go_roundw
        case rel => exact ⟨k + 1, by omega, by go_num, by rw [hfin.out]; exact Hblk5.out, Hg5.out⟩
        case measure => simp [intOf]; omega
      · obtain ⟨m, rfl⟩ : ∃ m : Nat, i = m := ⟨i.toNat, by omega⟩
        by_cases him : kn ≤ m
        · have hfin : Hid (setL p ah (ls.take (k + 1)) = ((sx, sy), sv)) := by
            show _ = _
            rw [Hstep.out, Hcand.out, if_neg hi0, Int.toNat_natCast, List.getElem?_eq_none (by rw [← Hkn.out]; exact him)]; rfl
          go_wp2
          go_roundw
          case rel => exact ⟨k + 1, by omega, by go_num, by rw [hfin.out]; exact Hblk5.out, Hg5.out⟩
          case measure => simp [intOf]; omega
        · obtain ⟨b2, off2, rfl, hc2⟩ := Hrx.out (by omega)
          obtain ⟨g1, g2⟩ := hc2 m (by omega)
          have hml : m < r.length := by rw [← Hkn.out]; omega
          have hq : r[m]? = some (r.getD m (0, 0)) := by rw [List.getD_eq_getElem?_getD, List.getElem?_eq_getElem hml]; rfl
          generalize r.getD m (0, 0) = q at *
          obtain ⟨qx, qy⟩ := q
          have e1 : w5.cell? ⟨b2, off2 + m * 2, none⟩ = some (.int .i64 qx) := (Hb5.out.cell (block_lt_of_cell g1)).trans g1
          have e2 : w5.cell? ⟨b2, off2 + m * 2 + 1, none⟩ = some (.int .i64 qy) := (Hb5.out.cell (block_lt_of_cell g2)).trans g2
          have m1 : w5.cell? ⟨cb, 1, none⟩ = some (.int .i64 sx) := by rw [cell_of_blk Hblk5.out]; rfl
          have m2 : w5.cell? ⟨cb, 2, none⟩ = some (.int .i64 sy) := by rw [cell_of_blk Hblk5.out]; rfl
          have m3 : w5.cell? ⟨cb, 3, none⟩ = some (.bool sv) := by rw [cell_of_blk Hblk5.out]; rfl
          have n1 : w5.frozen? ⟨cb, 1, none⟩ = false := frozen_of_blk Hblk5.out 1
          have n2 : w5.frozen? ⟨cb, 2, none⟩ = false := frozen_of_blk Hblk5.out 2
          have n3 : w5.frozen? ⟨cb, 3, none⟩ = false := frozen_of_blk Hblk5.out 3
          have Hs2 : Hid (setL p ah (ls.take (k + 1)) = if !sv || ah qx sx then ((qx, qy), true) else ((sx, sy), sv)) := by
            show _ = _
            rw [Hstep.out, Hcand.out, if_neg hi0, Int.toNat_natCast, hq]; rfl
          clear hc2 g1 g2 hq hml
          cases sv with
          | false =>
            have hfin : Hid (setL p ah (ls.take (k + 1)) = ((qx, qy), true)) := Hs2.out
            go_wp2
            go_quiet (fail)
            go_wp2
            go_roundw
            case rel => exact ⟨k + 1, by omega, by go_num, by rw [hfin.out]; exact cur_store (0, 0) (show (w5.drewN nq).heap[cb]? = _ from Hblk5.out) _ _, (grown_drewN Hg5.out nq).trans (((grown_setCell' _ _ _ _).trans (grown_setCell' _ _ _ _)).trans (grown_setCell' _ _ _ _))⟩
            case measure => simp [intOf]; omega
          | true =>
            have hcall := fun W => Hah.out W qx sx
            generalize ah qx sx = A at *
            have Hcall2 := Lib.hid hcall
            clear hcall
            cases A with
            | false =>
              have hfin : Hid (setL p ah (ls.take (k + 1)) = ((sx, sy), true)) := Hs2.out
              go_wp2
              go_quiet ((refine Calls.quiet_of_same ((Hcall2.out _).mono fun _ _ h => ⟨h.1, h.2.symm⟩)))
              go_wp2
              go_roundw
              case rel => exact ⟨k + 1, by omega, by go_num, by rw [hfin.out]; exact Hblk5.out, grown_drewN Hg5.out nq⟩
              case measure => simp [intOf]; omega
            | true =>
              have hfin : Hid (setL p ah (ls.take (k + 1)) = ((qx, qy), true)) := Hs2.out
              go_wp2
              go_quiet ((refine Calls.quiet_of_same ((Hcall2.out _).mono fun _ _ h => ⟨h.1, h.2.symm⟩)))
              go_wp2
              go_roundw
              case rel => exact ⟨k + 1, by omega, by go_num, by rw [hfin.out]; exact cur_store (0, 0) (show (w5.drewN nq).heap[cb]? = _ from Hblk5.out) _ _, (grown_drewN Hg5.out nq).trans (((grown_setCell' _ _ _ _).trans (grown_setCell' _ _ _ _)).trans (grown_setCell' _ _ _ _))⟩
              case measure => simp [intOf]; omega
    · obtain rfl : k = n := by omega
      have htk : ls.take k = ls := by rw [Hn.out, List.take_length]
      rw [htk] at hblk
      have v3 : wr.cell? ⟨cb, 3, none⟩ = some (.bool (setL p ah ls).2) := by rw [cell_of_blk hblk]; rfl
      have Hcur : Hid (IsCur w0 wr cb (.slice a k c) ls (setL p ah ls).1 (setL p ah ls).2) := ⟨by have := Hits.out; rw [← Hn.out] at this; exact this, hb, hold, hblk⟩
      have Hg := Lib.hid hg
      clear hblk hg hb htk
      go_wp2
      go_ret
      refine ⟨rfl, ?_, Hg.out⟩
      have := Hcur.out
      rw [Hn.out] at this
      exact this
end Go.Proofs.Ytcgkpbhoiaeolaa.Tithe
