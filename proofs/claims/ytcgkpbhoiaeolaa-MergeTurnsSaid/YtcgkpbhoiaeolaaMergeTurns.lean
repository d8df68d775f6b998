/- The law MergeTurns, walked. -/
import Derived.Test.YtcgkpbhoiaeolaaMergeWalks
import Derived.Test.YtcgkpbhoiaeolaaMergeGroups
import Derived.Deep.RegionWith
namespace Go.Proofs.Ytcgkpbhoiaeolaa.Tithe
open Go.RowKit Go.Sort Go.Shelf
set_option linter.unusedVariables false
theorem grown_row {W X Y : World} {row r2 : Option Nat} (h : W.grownBy X row) (h2 : X.grownBy Y r2) (hr : ∀ k, r2 = some k → W.heap.size ≤ k) : W.grownBy Y row :=
  ⟨h2.os.trans h.os, h2.tape.trans h.tape, h2.output.trans h.output, Nat.le_trans h.size h2.size, fun k hk hn => (h2.block k (Nat.lt_of_lt_of_le hk h.size) (fun e => by have := hr k e.symm; omega)).trans (h.block k hk hn)⟩
theorem cur_row {w0 w w' : World} {cb : Nat} {rv : Value} {ls : List (List It)} {x : It} {ok : Bool} {r : Option Nat} (h : IsCur w0 w cb rv ls x ok) (hg : w.grownBy w' r) (hr : ∀ k, r = some k → cb < k) : IsCur w0 w' cb rv ls x ok :=
  ⟨h.its, h.below.trans ⟨hg.os, hg.tape, hg.output, hg.size, fun k hk => hg.block k (Nat.lt_of_lt_of_le hk h.below.size) (fun e => by have := hr k e.symm; have := h.old; omega)⟩, h.old, (hg.block cb (Array.getElem?_eq_some_iff.1 h.blk).1 (fun e => by have := hr cb e.symm; omega)).trans h.blk⟩
theorem cells_step {l : List It} {k : Nat} (h : k < l.length) {x y : Int} (e : l.getD k (0, 0) = (x, y)) : cellsP (l.take (k + 1)) = cellsP (l.take k) ++ [.int .i64 x, .int .i64 y] := by
  have := cellsP_take h
  rw [e] at this
  exact this
theorem rev_getD {l : List It} {k : Nat} (h : k < l.length) : l.reverse.getD k (0, 0) = l.getD (l.length - 1 - k) (0, 0) := by
  simp only [List.getD_eq_getElem?_getD]
  rw [List.getElem?_reverse h]
set_option maxHeartbeats 1600000 in
theorem turns_skip (a : Option Addr) (c : Nat) (ls : List (List It)) (K : Int) (w : World) (h : IsIts w (.slice a ls.length c) ls) (hs : smallI ls = false ∨ (smallI ls = true ∧ runsB ls = false)) :
    Calls Try.prog 8 #[.slice a ls.length c, .int .i64 K] w fun e w' => e = .returned (.bool true) ∧ Below w.heap.size w w' := by
  have H := Lib.hid h
  rcases hs with hs | ⟨hs, hr⟩
  · have Hs := Lib.hid hs
    clear h hs
    go_enter Try.func8, Try.ntmps8
    go_wp2_with fail
    refine (small_any _ ls w H.out).mono ?_
    rintro e w' ⟨rfl, rfl⟩
    rw [Hs.out]
    go_wp2_with fail
    refine (awake_any w).mono ?_
    rintro e w' ⟨rfl, hb⟩
    go_wp2
    go_ret
    exact ⟨rfl, hb⟩
  · have Hs := Lib.hid hs
    have hruns := runs_any _ ls w h
    rw [hr] at hruns
    have Hruns := Lib.hid hruns
    clear h hs hr hruns
    go_enter Try.func8, Try.ntmps8
    go_wp2_with fail
    refine (small_any _ ls w H.out).mono ?_
    rintro e w' ⟨rfl, rfl⟩
    rw [Hs.out]
    go_wp2_with fail
    refine Hruns.out.mono ?_
    rintro e w' ⟨rfl, nq, rfl⟩
    go_wp2_with fail
    refine (awake_any _).mono ?_
    rintro e w' ⟨rfl, hb⟩
    go_wp2
    go_ret
    exact ⟨rfl, (below_drewN (Below.refl _ _) nq).trans hb⟩
set_option maxRecDepth 100000 in
set_option maxHeartbeats 3200000 in
theorem turns_yes (a : Option Addr) (c : Nat) (ls : List (List It)) (K : Int) (w : World) (h : IsIts w (.slice a ls.length c) ls) (hs : smallI ls = true) (hr : runsB ls = true) :
    Calls Try.prog 8 #[.slice a ls.length c, .int .i64 K] w fun e w' => e = .returned (.bool true) ∧ Below w.heap.size w w' := by
  obtain ⟨i0, hi0, hz0, hz1, hz2⟩ := info_parts itinfo
  have H := Lib.hid h
  obtain ⟨-, hc, hm, -⟩ := h.at
  obtain ⟨h10, h40⟩ := smallI_iff hs
  have Hs := Lib.hid hs
  have Hr := Lib.hid hr
  have H40 := Lib.hid h40
  have Hok := Lib.hid (okRuns_of hr (fun i hi => by have := h40 i hi; omega))
  have Hasc := Lib.hid (okRuns_asc Hok.out)
  have hru := runs_any _ ls w h
  rw [hr] at hru
  have Hru := Lib.hid hru
  clear h hs hr h40 hru
  have Hi0 := Lib.hid hi0
  have Hz0 := Lib.hid hz0
  have Hz1 := Lib.hid hz1
  have Hz2 := Lib.hid hz2
  clear hi0 hz0 hz1 hz2
  go_enter Try.func8, Try.ntmps8
  go_wp2_with fail
  refine (small_any _ ls w H.out).mono ?_
  rintro e w' ⟨rfl, rfl⟩
  rw [Hs.out]
  go_wp2_with fail
  refine Hru.out.mono ?_
  rintro e w' ⟨rfl, nq, rfl⟩
  have Hb1 : Hid (Below w.heap.size w (w.drewN nq)) := below_drewN (Below.refl _ _) nq
  go_wp2_with fail
  refine (all_any _ ls _ (H.out.below Hb1.out) (by omega) (fun i hi => by have := H40.out i hi; omega)).mono ?_
  rintro e w2 ⟨iv, rfl, hits, hnil, hb2⟩
  have Hb2 := Lib.hid (Hb1.out.trans (hb2.mono (Nat.le_refl _)))
  have hw2 := Hb2.out.size
  have Hnew := Lib.hid (new_any iv ls w2 hits hnil (by omega))
  obtain ⟨ia, ic, rfl, -, -, -⟩ := id hits
  clear hits hnil hb2
  go_wp2_with fail
  refine Hnew.out.mono ?_
  rintro e w4 (⟨hno, -⟩ | ⟨-, w1, cb, cv, rfl, hcur, hb3, hb4⟩)
  · rw [Hr.out] at hno; cases hno
  have Hcur := Lib.hid hcur
  have hold := hcur.old
  have hw1 := hb3.size
  have hcl := (Array.getElem?_eq_some_iff.1 hcur.blk).1
  have hb4' : Below w.heap.size w w4 := Hb2.out.trans (hb4.mono hw2)
  have Hb4 := Lib.hid hb4'
  have hw4 := hb4'.size
  have hMl := one_le ls H40.out
  obtain ⟨M, hM⟩ : ∃ M, M = oneL ls := ⟨_, rfl⟩
  have hsk := seek_any _ _ _ _ _ _ _ K hcur Hok.out
  rw [at_seek Hasc.out, ← hM] at hsk
  have hcK := ceilL_le M K
  rw [← hM] at hMl
  have HM := Lib.hid hM
  obtain ⟨mN, hmN⟩ : ∃ mN, mN = M.length := ⟨_, rfl⟩
  rw [← hmN] at hMl hcK
  have HmN := Lib.hid hmN
  have Hsk := Lib.hid hsk
  generalize ceilL M K = z0 at *
  clear hcur hb3 hb4 hb4' Hnew hM hmN hsk
  go_wp2_with fail
  refine Hsk.out.mono ?_
  rintro e w5 ⟨rfl, hc5, hg5⟩
  have hw5 := hg5.size
  have hcl5 : cb < w5.heap.size := by omega
  have Hc5 := Lib.hid hc5
  have Hg5 := Lib.hid hg5
  clear hc5 hg5
  go_upto_if 36 with fail
  go_cut [5] from 36 (fun p wy => p = .pointer (some ⟨cb, 0, none⟩) ∧ ∃ x ok, IsCur w1 wy cb cv ls x ok ∧ w4.grownBy wy (some cb))
  case first =>
    by_cases hz : z0 < mN
    · have hzM : z0 < M.length := by have := HmN.out; omega
      have hst := stAt_in hzM
      have hc5 := Hc5.out
      rw [hst] at hc5 ⊢
      have hn := at_next Hasc.out (t := z0) (by rw [← HM.out]; exact hzM)
      rw [← HM.out] at hn
      have hq := HM.out
      obtain ⟨⟨qx, qy⟩, hq⟩ : ∃ q, q = M.getD z0 (0, 0) := ⟨_, rfl⟩
      rw [← hq] at hc5 hst
      have hi := item_any _ _ _ _ _ _ _ hc5
      have Hi := Lib.hid hi
      have Hc5' := Lib.hid hc5
      have Hst := Lib.hid hst
      have Hn := Lib.hid hn
      have Hq := Lib.hid hq
      clear hc5 hi hst hn hq
      go_wp2_with fail
      refine Hi.out.mono ?_
      rintro e w6 ⟨rfl, hb6⟩
      have hw6 := hb6.size
      have hcx : IsCur w1 (w6.alloc (.cells #[.int .i64 qx, .int .i64 qy] 42)).drew cb cv ls (qx, qy) true := cur_drewN (cur_alloc (cur_below Hc5'.out hb6) _) 1
      have hgx : w4.grownBy (w6.alloc (.cells #[.int .i64 qx, .int .i64 qy] 42)).drew (some cb) := grown_drewN ((Hg5.out.trans (grown_of_below hb6)).trans (World.grownBy_alloc _ _ _)) 1
      have x0 : (w6.alloc (.cells #[.int .i64 qx, .int .i64 qy] 42)).drew.cell? ⟨w6.heap.size, 0, none⟩ = some (.int .i64 qx) := by show (w6.alloc (.cells #[.int .i64 qx, .int .i64 qy] 42)).cell? _ = _; rw [World.cell?_alloc_mark]; rfl
      have x1 : (w6.alloc (.cells #[.int .i64 qx, .int .i64 qy] 42)).drew.cell? ⟨w6.heap.size, 1, none⟩ = some (.int .i64 qy) := by show (w6.alloc (.cells #[.int .i64 qx, .int .i64 qy] 42)).cell? _ = _; rw [World.cell?_alloc_mark]; rfl
      have hwx : w6.heap.size ≠ cb := by omega
      have hnx := next_any _ _ _ _ _ _ _ hcx Hok.out rfl
      have hn := Hn.out
      rw [← Hq.out] at hn
      rw [hn] at hnx
      have X0 := Lib.hid x0
      have X1 := Lib.hid x1
      have Hnx := Lib.hid hnx
      have Hgx := Lib.hid hgx
      have Hwx := Lib.hid hwx
      clear hcx hgx x0 x1 hn hnx hwx hb6
      go_wp2_with fail
      by_cases hz1 : z0 + 1 < mN
      · have hz1M : z0 + 1 < M.length := by have := HmN.out; omega
        have hst1 : stAt M ((z0 : Int) + 1) = (M.getD (z0 + 1) (0, 0), true) := stAt_in (t := z0 + 1) hz1M
        have hnx := Hnx.out
        rw [hst1] at hnx
        have hp := at_prev Hasc.out (t := z0 + 1) (by rw [← HM.out]; exact hz1M)
        rw [← HM.out] at hp
        have e1 : ((z0 + 1 : Nat) : Int) - 1 = z0 := by omega
        rw [e1, Hst.out] at hp
        generalize M.getD (z0 + 1) (0, 0) = p at *
        have Hp := Lib.hid hp
        dsimp only at hnx
        have Hnx2 := Lib.hid hnx
        have Hne := Lib.hid (fun W => neq_self qx qy W)
        clear hst1 hnx hp e1
        go_region_with (first
          | (go_at_call 26; refine Hnx2.out.mono ?_; rintro e w8 ⟨rfl, hc8, hg8⟩; have Hg8 := Lib.hid hg8; have Hc8 : Hid (IsCur w1 w8 cb cv ls p true) := hc8; have y0 := cell_grown hg8 X0.out Hwx.out; have y1 := cell_grown hg8 X1.out Hwx.out; have hpv := prev_any _ _ _ _ _ _ _ Hc8.out Hok.out rfl; rw [Hp.out] at hpv; dsimp only at hpv; have Hpv := Lib.hid hpv; clear hpv hc8 hg8)
          | (go_at_call 27; refine Hpv.out.mono ?_; rintro e w9 ⟨rfl, hc9, hg9⟩; have Hg9 := Lib.hid hg9; have Hc9 : Hid (IsCur w1 w9 cb cv ls (qx, qy) true) := hc9; have u0 := cell_grown hg9 y0 Hwx.out; have u1 := cell_grown hg9 y1 Hwx.out; have Hit := Lib.hid (item_any _ _ _ _ _ _ _ Hc9.out); have hne := Hne.out; clear hc9 hg9)
          | (go_at_call 29; refine Hit.out.mono ?_; rintro e w10 ⟨rfl, hb10⟩; have Hb10 := Lib.hid hb10; have t0 := (hb10.cell (block_lt_of_cell u0)).trans u0; have t1 := (hb10.cell (block_lt_of_cell u1)).trans u1; clear hb10))
        all_goals (go_wp2; go_meet; exact ⟨rfl, _, _, cur_below Hc9.out Hb10.out, ((Hgx.out.trans Hg8.out).trans Hg9.out).trans (grown_of_below Hb10.out)⟩)
      · have hst1 : stAt M ((z0 : Int) + 1) = ((0, 0), false) := stAt_out (.inr (by have := HmN.out; omega))
        have hnx := Hnx.out
        rw [hst1] at hnx
        dsimp only at hnx
        have Hnx2 := Lib.hid hnx
        clear hst1 hnx
        have hundef : undef = Value.tuple #[] := rfl
        first | (go_region_with (go_at_call 26; refine Hnx2.out.mono ?_; rintro e w8 ⟨rfl, hc8, hg8⟩)) | fail
        all_goals (go_wp2; go_meet; exact ⟨rfl, _, _, hc8, Hgx.out.trans hg8⟩)
    · have hst := stAt_out (M := M) (z := z0) (by have := HmN.out; omega)
      have hc5 := Hc5.out
      rw [hst] at hc5 ⊢
      have Hc5' := Lib.hid hc5
      clear hc5 hst
      go_wp2
      go_meet
      exact ⟨rfl, _, _, Hc5'.out, Hg5.out⟩
  case rest =>
    obtain ⟨rfl, x0, ok0, hcc, hgc⟩ := hcut
    have hbc : Below w.heap.size w wc := Hb4.out.trans (grown_below hgc (by omega) hw4)
    have hf := first_any _ _ _ _ _ _ _ hcc
    rw [at_first Hasc.out, ← HM.out] at hf
    have Hf := Lib.hid hf
    have hwc : w4.heap.size ≤ wc.heap.size := hgc.size
    have Hbc := Lib.hid hbc
    clear hf hcc hgc hbc
    go_wp2_with fail
    refine Hf.out.mono ?_
    rintro e w6 ⟨rfl, hc6, hg6⟩
    have hw6 := hg6.size
    have hcb6 : cb < w6.heap.size := by omega
    have hb6 : Below w.heap.size w w6 := Hbc.out.trans (grown_below hg6 (by omega) Hbc.out.size)
    have Hc6 := Lib.hid hc6
    have Hb6 := Lib.hid hb6
    clear hc6 hg6 hb6
    go_wp2_with fail
    go_loopg [8, 10] mN (fun g on ok wr => ∃ k : Nat, k ≤ mN ∧ g = mN - k ∧ ok = .bool (stAt M (k : Int)).2 ∧ wr.ownsRow w6.heap.size 42 2 on k (cellsP (M.take k)) ∧ IsCur w1 wr cb cv ls (stAt M (k : Int)).1 (stAt M (k : Int)).2 ∧ w6.grownBy wr (some cb))
    case atStart => exact ⟨0, Nat.zero_le _, rfl, rfl, World.ownsRow_nil _ _ _ _, Hc6.out, World.grownBy.refl _ _⟩
    case round =>
      obtain ⟨wo, rfl⟩ : ∃ wo : World, wo = wr := ⟨_, rfl⟩
      obtain ⟨k, hk, rfl, rfl, hown, hcr, hgr⟩ := hrel
      have hsr := hgr.size
      by_cases hkn : k < mN
      · have hkM : k < M.length := by have := HmN.out; omega
        have hst := stAt_in hkM
        rw [hst] at hcr ⊢
        have hn := at_next Hasc.out (t := k) (by rw [← HM.out]; exact hkM)
        rw [← HM.out] at hn
        have hcs := fun x y e => cells_step (x := x) (y := y) hkM e
        generalize M.getD k (0, 0) = q at *
        obtain ⟨qx, qy⟩ := q
        have hcs := hcs qx qy rfl
        have hi := item_any _ _ _ _ _ _ _ hcr
        have Hcr := Lib.hid hcr
        have Hgr := Lib.hid hgr
        have Hown := Lib.hid hown
        have Hn := Lib.hid hn
        have Hcs := Lib.hid hcs
        have Hi := Lib.hid hi
        clear hst hcr hn hcs hi hgr hown
        obtain ⟨va, vc, rfl⟩ := own_slice Hown.out
        go_wp2_with fail
        refine Hi.out.mono ?_
        rintro e w8 ⟨rfl, hb8⟩
        have hown := own_below Hown.out hb8
        have hc8 := cur_below Hcr.out hb8
        have Hg8 : Hid (w6.grownBy w8 (some cb)) := Hgr.out.trans (grown_of_below hb8)
        have hs8 := hb8.size
        have Hown8 := Lib.hid hown
        have Hc8 := Lib.hid hc8
        have hi0 := Hi0.out
        have hz0 := Hz0.out
        have hz1 := Hz1.out
        have hz2 := Hz2.out
        clear hc8 hb8
        go_wp2_with (first | (at_builtin; refine wpList_append_own _ rfl (.tmp 57) (.tmp 60) 27 rfl w6.heap.size 42 i0 (.agg #[.int .i64 0, .int .i64 0]) 2 16 Try.underlying27 hi0 hz0 hz1 hz2 rfl (by decide) _ k _ rfl (hown.alloc _) ⟨w8.heap.size, 0, none⟩ 1 1 [.int .i64 qx, .int .i64 qy] rfl rfl ?c1 ?c2 ?c3 ?c4 ?c5 ?_))
        case c1 => exact news2 _ _ _ _ _ rfl
        case c2 => exact two_one _ _
        case c3 => unfold maxLen; omega
        case c4 => omega
        case c5 => first | omega | (simp; omega)
        intro v' w9 hown' hgrow _
        have hlt := (hown.alloc (.cells #[.int .i64 qx, .int .i64 qy] 42)).lt
        have hgx := Hg8.out.trans (World.grownBy_alloc w8 (.cells #[.int .i64 qx, .int .i64 qy] 42) (some cb))
        have hg9 := grown_row hgx hgrow (fun r hr => (hlt r hr).1)
        have hc9 := cur_row (cur_alloc Hc8.out (.cells #[.int .i64 qx, .int .i64 qy] 42)) hgrow (fun r hr => Nat.lt_of_lt_of_le hcb6 (hlt r hr).1)
        rw [← Hcs.out] at hown'
        obtain ⟨va', vc', rfl⟩ := own_slice hown'
        have hnx := next_any _ _ _ _ _ _ _ hc9 Hok.out rfl
        rw [Hn.out] at hnx
        have Hnx := Lib.hid hnx
        have Hg9 := Lib.hid hg9
        have Hown9 := Lib.hid hown'
        clear hlt hgx hg9 hc9 hnx hown' hgrow hown hi0 hz0 hz1 hz2
        go_wp2_with fail
        refine Hnx.out.mono ?_
        rintro e w10 ⟨rfl, hc10, hg10⟩
        have hown10 := own_far Hown9.out hg10 (fun r e => by cases e; exact hcb6)
        have Hc10 := Lib.hid hc10
        have Hg10 := Lib.hid (Hg9.out.trans hg10)
        have Hown10 := Lib.hid hown10
        clear hc10 hg10 hown10
        go_wp2
        go_roundg (mN - (k + 1))
        case rel => exact ⟨k + 1, by omega, rfl, rfl, Hown10.out, Hc10.out, Hg10.out⟩
        case measure => omega
      · obtain rfl : k = mN := by omega
        have hst := stAt_out (M := M) (z := k) (.inr (by have := HmN.out; omega))
        have hcr' := hcr
        rw [hst] at hcr ⊢
        have htk : M.take k = M := List.take_of_length_le (by have := HmN.out; omega)
        rw [htk] at hown
        obtain ⟨oa, oc, rfl⟩ := own_slice hown
        have hl := last_any _ _ _ _ _ _ _ hcr'
        rw [at_last Hasc.out, ← HM.out, ← HmN.out] at hl
        have Hl := Lib.hid hl
        have Hown := Lib.hid hown
        have Hgr := Lib.hid hgr
        obtain ⟨R, hR⟩ : ∃ R, R = M.reverse := ⟨_, rfl⟩
        have HR := Lib.hid hR
        have hRM : R.length = k := by rw [hR, List.length_reverse]; exact HmN.out.symm
        have HRg : Hid (∀ j, j < k → R.getD j (0, 0) = M.getD (k - 1 - j) (0, 0)) := fun j hj => by rw [hR, rev_getD (by rw [← HmN.out]; exact hj), ← HmN.out]
        have HRl := Lib.hid hRM
        clear hst hcr hcr' htk hown hgr hl hR hRM
        go_wp2_with fail
        refine Hl.out.mono ?_
        rintro e w7 ⟨rfl, hc7, hg7⟩
        have hs7 := hg7.size
        have hcb7 : cb < w7.heap.size := by omega
        have hown7 := own_far Hown.out hg7 (fun r e => by cases e; exact hcb6)
        have hg7' := Hgr.out.trans hg7
        have Hc7 := Lib.hid hc7
        have Hg7 := Lib.hid hg7'
        have Hown7 := Lib.hid hown7
        clear hc7 hg7 hg7' hown7
        go_wp2_with fail
        go_loopg [9, 11] k (fun g on ok wr => ∃ j : Nat, j ≤ k ∧ g = k - j ∧ ok = .bool (stAt M ((k : Int) - 1 - j)).2 ∧ wr.ownsRow w7.heap.size 42 2 on j (cellsP (R.take j)) ∧ IsCur w1 wr cb cv ls (stAt M ((k : Int) - 1 - j)).1 (stAt M ((k : Int) - 1 - j)).2 ∧ w7.grownBy wr (some cb))
        case atStart => exact ⟨0, Nat.zero_le _, rfl, by simp, World.ownsRow_nil _ _ _ _, by simpa using Hc7.out, World.grownBy.refl _ _⟩
        case round =>
          obtain ⟨wo, rfl⟩ : ∃ wo : World, wo = wr := ⟨_, rfl⟩
          obtain ⟨j, hj, rfl, rfl, hown, hcr, hgr⟩ := hrel
          have hsr := hgr.size
          by_cases hjk : j < k
          · have hkM : k - 1 - j < M.length := by have := HmN.out; omega
            have ez : (k : Int) - 1 - j = ((k - 1 - j : Nat) : Int) := by omega
            have ez2 : (k : Int) - 1 - ((j + 1 : Nat) : Int) = ((k - 1 - j : Nat) : Int) - 1 := by omega
            have hst := stAt_in hkM
            rw [ez, hst] at hcr
            rw [ez, hst]
            have hn := at_prev Hasc.out (t := k - 1 - j) (by rw [← HM.out]; exact hkM)
            rw [← HM.out, ← ez2] at hn
            have hcs := fun x y e => cells_step (l := R) (k := j) (x := x) (y := y) (by rw [HRl.out]; exact hjk) e
            rw [HRg.out j hjk] at hcs
            generalize M.getD (k - 1 - j) (0, 0) = q at *
            obtain ⟨qx, qy⟩ := q
            have hcs := hcs qx qy rfl
            have hi := item_any _ _ _ _ _ _ _ hcr
            have Hcr := Lib.hid hcr
            have Hgr2 := Lib.hid hgr
            have Hown2 := Lib.hid hown
            have Hn := Lib.hid hn
            have Hcs := Lib.hid hcs
            have Hi := Lib.hid hi
            clear hst hcr hn hcs hi hgr hown ez ez2 hkM
            obtain ⟨va, vc, rfl⟩ := own_slice Hown2.out
            go_wp2_with fail
            refine Hi.out.mono ?_
            rintro e w8 ⟨rfl, hb8⟩
            have hown := own_below Hown2.out hb8
            have hc8 := cur_below Hcr.out hb8
            have Hg8 : Hid (w7.grownBy w8 (some cb)) := Hgr2.out.trans (grown_of_below hb8)
            have hs8 := hb8.size
            have Hown8 := Lib.hid hown
            have Hc8 := Lib.hid hc8
            have hi0 := Hi0.out
            have hz0 := Hz0.out
            have hz1 := Hz1.out
            have hz2 := Hz2.out
            clear hc8 hb8
            go_wp2_with (first | (at_builtin; refine wpList_append_own _ rfl (.tmp 70) (.tmp 73) 27 rfl w7.heap.size 42 i0 (.agg #[.int .i64 0, .int .i64 0]) 2 16 Try.underlying27 hi0 hz0 hz1 hz2 rfl (by decide) _ j _ rfl (hown.alloc _) ⟨w8.heap.size, 0, none⟩ 1 1 [.int .i64 qx, .int .i64 qy] rfl rfl ?c1 ?c2 ?c3 ?c4 ?c5 ?_))
            case c1 => exact news2 _ _ _ _ _ rfl
            case c2 => exact two_one _ _
            case c3 => unfold maxLen; omega
            case c4 => omega
            case c5 => first | omega | (simp; omega)
            intro v' w9 hown' hgrow _
            have hlt := (hown.alloc (.cells #[.int .i64 qx, .int .i64 qy] 42)).lt
            have hgx := Hg8.out.trans (World.grownBy_alloc w8 (.cells #[.int .i64 qx, .int .i64 qy] 42) (some cb))
            have hg9 := grown_row hgx hgrow (fun r hr => (hlt r hr).1)
            have hc9 := cur_row (cur_alloc Hc8.out (.cells #[.int .i64 qx, .int .i64 qy] 42)) hgrow (fun r hr => Nat.lt_of_lt_of_le hcb7 (hlt r hr).1)
            rw [← Hcs.out] at hown'
            obtain ⟨va', vc', rfl⟩ := own_slice hown'
            have hnx := prev_any _ _ _ _ _ _ _ hc9 Hok.out rfl
            rw [Hn.out] at hnx
            have Hnx := Lib.hid hnx
            have Hg9 := Lib.hid hg9
            have Hown9 := Lib.hid hown'
            clear hlt hgx hg9 hc9 hnx hown' hgrow hown hi0 hz0 hz1 hz2
            go_wp2_with fail
            refine Hnx.out.mono ?_
            rintro e w10 ⟨rfl, hc10, hg10⟩
            have hown10 := own_far Hown9.out hg10 (fun r e => by cases e; exact hcb7)
            have Hc10 := Lib.hid hc10
            have Hg10 := Lib.hid (Hg9.out.trans hg10)
            have Hown10 := Lib.hid hown10
            clear hc10 hg10 hown10
            go_wp2
            go_roundg (k - (j + 1))
            case rel => exact ⟨j + 1, by omega, rfl, rfl, Hown10.out, Hc10.out, Hg10.out⟩
            case measure => omega
          · obtain rfl : j = k := by omega
            have hst := stAt_out (M := M) (z := (j : Int) - 1 - j) (.inl (by omega))
            rw [hst] at hcr ⊢
            have htk : R.take j = R := List.take_of_length_le (by rw [HRl.out]; exact Nat.le_refl _)
            rw [htk] at hown
            obtain ⟨ba, bc, rfl⟩ := own_slice hown
            have hon := own_far Hown7.out hgr (fun r e => by cases e; exact hcb6)
            have ion : IsIt wo (.slice oa j oc) M := by
              rw [HmN.out] at hon ⊢
              exact isIt_own hon
            have iba : IsIt wo (.slice ba j bc) R := by
              have h2 := hown
              rw [← HRl.out] at h2
              have h3 := isIt_own h2
              rw [HRl.out] at h3
              exact h3
            obtain ⟨-, oc1, oc2, hox⟩ := ion.at
            obtain ⟨-, bc1, bc2, hbx⟩ := iba.at
            have Hox := Lib.hid hox
            have Hbx := Lib.hid hbx
            have Hval := Lib.hid (valid_any _ _ _ _ _ _ _ hcr)
            have Hg9 := Lib.hid hgr
            have hb7 : Below w.heap.size w w7 := Hb6.out.trans (grown_below Hg7.out (by omega) Hb6.out.size)
            have hbo : Below w.heap.size w wo := hb7.trans (grown_below hgr (by omega) hb7.size)
            have Hbo := Lib.hid hbo
            clear hst hcr htk hown hgr hon ion iba hox hbx hb7 hbo
            go_wp2_with fail
            refine Hval.out.mono ?_
            rintro e w9 ⟨rfl, rfl⟩
            go_wp2_with fail
            go_loopw [89] (fun i wr => ∃ t : Nat, t ≤ j ∧ i = .int .i64 t ∧ ∃ d, wr = wo.drewN d) (fun i _ => j - (intOf i).toNat)
            case atStart => exact ⟨0, Nat.zero_le _, rfl, 0, rfl⟩
            case round =>
              obtain ⟨t, ht, rfl, d, rfl⟩ := hrel
              by_cases htj : t < j
              · obtain ⟨u, hu⟩ : ∃ u : Nat, u = j - 1 - t := ⟨_, rfl⟩
                have huj : u < j := by omega
                have hj400 : (j : Int) ≤ 400 := by omega
                have hw1 : IntKind.i64.wrap ((j : Int) - 1) = (j : Int) - 1 := IntWalk.i64_in _ (by omega)
                have hw2 : IntKind.i64.wrap ((j : Int) - 1 - (t : Int)) = (u : Int) := (IntWalk.i64_in _ (by omega)).trans (by omega)
                obtain ⟨bo, oo, rfl, kx⟩ := Hox.out (by omega)
                obtain ⟨ex1, ex2⟩ := kx t htj
                obtain ⟨bb, ob, rfl, ky⟩ := Hbx.out (by omega)
                obtain ⟨et1, et2⟩ := ky u huj
                rw [HRg.out u huj, show j - 1 - u = t by omega] at et1 et2
                clear kx ky
                generalize M.getD t (0, 0) = q at *
                obtain ⟨qx, qy⟩ := q
                dsimp only at ex1 ex2 et1 et2
                have hne := fun W => neq_self qx qy W
                clear hu
                go_wp2
                go_quiet (fail)
                go_wp2
                go_roundw
                case rel => exact ⟨t + 1, by omega, by go_num, _, rfl⟩
                case measure => simp [intOf]; omega
              · obtain rfl : t = j := by omega
                go_wp2_with fail
                refine (awake_any _).mono ?_
                rintro e w5 ⟨rfl, hb5⟩
                go_wp2
                go_ret
                have hbd := below_drewN Hbo.out d
                exact ⟨rfl, hbd.trans (hb5.mono hbd.size)⟩
theorem mergeTurns_walk (v : Value) (ls : List (List It)) (K : Int) (w : World) (h : IsIts w v ls) (hw : (Lit.int .i64 K).wf = true) :
    Calls Try.prog 8 #[v, .int .i64 K] w fun e w' => e = .returned (.bool true) ∧ Below w.heap.size w w' := by
  obtain ⟨a, c, rfl, -, -, -⟩ := id h
  cases hs : smallI ls with
  | false => exact turns_skip a c ls K w h (.inl hs)
  | true =>
    cases hr : runsB ls with
    | false => exact turns_skip a c ls K w h (.inr ⟨hs, hr⟩)
    | true => exact turns_yes a c ls K w h hs hr
end Go.Proofs.Ytcgkpbhoiaeolaa.Tithe
