/- The law MergeWalks, walked. -/
import Derived.Test.YtcgkpbhoiaeolaaMerAt
import Derived.Deep.DeepCutAuto
import Derived.Deep.CutBlock
import Derived.Deep.LoopGhost
namespace Go.Proofs.Ytcgkpbhoiaeolaa.Tithe
open Go.RowKit Go.Sort Go.Shelf
set_option linter.unusedVariables false
theorem cur_below {w0 w w' : World} {cb : Nat} {rv : Value} {ls : List (List It)} {x : It} {ok : Bool} (h : IsCur w0 w cb rv ls x ok) (hb : Below w.heap.size w w') : IsCur w0 w' cb rv ls x ok :=
  ⟨h.its, h.below.trans (hb.mono h.below.size), h.old, (hb.block cb (Array.getElem?_eq_some_iff.1 h.blk).1).trans h.blk⟩
theorem cur_drewN {w0 w : World} {cb : Nat} {rv : Value} {ls : List (List It)} {x : It} {ok : Bool} (h : IsCur w0 w cb rv ls x ok) (n : Nat) : IsCur w0 (w.drewN n) cb rv ls x ok :=
  ⟨h.its, below_drewN h.below n, h.old, h.blk⟩
set_option maxRecDepth 100000 in
set_option maxHeartbeats 3200000 in
theorem walks_yes (a sa : Option Addr) (c sc : Nat) (ls : List (List It)) (ss : List It) (w : World) (h : IsIts w (.slice a ls.length c) ls) (hss : IsIt w (.slice sa ss.length sc) ss) (hs : smallI ls = true) (hr : runsB ls = true) (h80 : (ss.length : Int) ≤ 80) :
    Calls Try.prog 7 #[.slice a ls.length c, .slice sa ss.length sc] w fun e w' => e = .returned (.bool true) ∧ Below w.heap.size w w' := by
  have H := Lib.hid h
  have Hss := Lib.hid hss
  obtain ⟨-, hc, hm, -⟩ := h.at
  obtain ⟨-, hsc, hsm, hsx⟩ := hss.at
  obtain ⟨h10, h40⟩ := smallI_iff hs
  have Hsx := Lib.hid hsx
  have Hs := Lib.hid hs
  have Hr := Lib.hid hr
  have H40 := Lib.hid h40
  have Hok := Lib.hid (okRuns_of hr (fun i hi => by have := h40 i hi; omega))
  have Hasc := Lib.hid (okRuns_asc Hok.out)
  clear h hss hs hr h40 hsx
  go_enter Try.func7, Try.ntmps7
  go_wp2_with fail
  refine (small_any _ ls w H.out).mono ?_
  rintro e w' ⟨rfl, rfl⟩
  rw [Hs.out]
  go_wp2_with fail
  refine (all_any _ ls w H.out (by omega) (fun i hi => by have := H40.out i hi; omega)).mono ?_
  rintro e w2 ⟨iv, rfl, hits, hnil, hb2⟩
  have Hb2 := Lib.hid hb2
  have hw2 := hb2.size
  have Hnew := Lib.hid (new_any iv ls w2 hits hnil (by omega))
  obtain ⟨ia, ic, rfl, -, -, -⟩ := id hits
  clear hits hnil hb2
  go_wp2_with fail
  refine Hnew.out.mono ?_
  rintro e w4 (⟨hno, -⟩ | ⟨-, w1, cb, cv, rfl, hcur, hb3, hb4⟩)
  · rw [Hr.out] at hno; cases hno
  have Hcur := Lib.hid hcur
  have hold := hcur.old
  have hw1 := hb3.size
  have hcl := (Array.getElem?_eq_some_iff.1 hcur.blk).1
  have hb4' : Below w.heap.size w w4 := Hb2.out.trans (hb4.mono hw2)
  have Hb4 := Lib.hid hb4'
  have hw4 := hb4'.size
  have hru := runs_any _ ls w4 (H.out.below hb4')
  rw [Hr.out] at hru
  have Hru := Lib.hid hru
  clear hcur hb3 hb4 hb4' hru Hnew
  go_wp2_with fail
  refine Hru.out.mono ?_
  rintro e w' ⟨rfl, nq, rfl⟩
  have Hcur5 : Hid (IsCur w1 (w4.drewN nq) cb cv ls (0, 0) false) := ⟨Hcur.out.its, below_drewN Hcur.out.below nq, Hcur.out.old, Hcur.out.blk⟩
  have Hb5 : Hid (Below w.heap.size w (w4.drewN nq)) := below_drewN Hb4.out nq
  go_wp2_with fail
  refine (valid_any _ _ _ _ _ _ _ Hcur5.out).mono ?_
  rintro e w' ⟨rfl, rfl⟩
  go_wp2_with fail
  refine (one_any _ ls _ (H.out.below Hb5.out) (by omega) (fun i hi => by have := H40.out i hi; omega)).mono ?_
  rintro e w6 ⟨lv, rfl, ho, hb6⟩
  have hb6' : Below w.heap.size w w6 := Hb5.out.trans (hb6.mono hw4)
  have Hb6 := Lib.hid hb6'
  have hw6 : w4.heap.size ≤ w6.heap.size := hb6.size
  obtain ⟨la, lc, rfl⟩ := own_slice ho
  have Ho := Lib.hid ho
  have Hcur6 : Hid (IsCur w1 w6 cb cv ls (0, 0) false) := ⟨Hcur5.out.its, Hcur5.out.below.trans (hb6.mono Hcur5.out.below.size), Hcur5.out.old, (hb6.block cb hcl).trans Hcur5.out.blk⟩
  clear ho hb6 hb6'
  go_wp2_with fail
  have hMl := one_le ls H40.out
  obtain ⟨M, hM⟩ : ∃ M, M = oneL ls := ⟨_, rfl⟩
  rw [← hM] at Ho hMl ⊢
  have HM := Lib.hid hM
  obtain ⟨mN, hmN⟩ : ∃ mN, mN = M.length := ⟨_, rfl⟩
  rw [← hmN] at Ho hMl ⊢
  have HmN := Lib.hid hmN
  obtain ⟨n, hn⟩ : ∃ n, n = ss.length := ⟨_, rfl⟩
  rw [← hn] at Hss hsc Hsx h80 ⊢
  have Hn := Lib.hid hn
  have hcb6 : cb < w6.heap.size := by omega
  have hst0 : Hid (stAt M (-1) = ((0, 0), false)) := stAt_out (.inl (by omega))
  clear hM hmN hn
  go_loopg [8, 54] (n + 1) (fun g at_ i wr => ∃ (k : Nat) (z : Int), k ≤ n ∧ g = n - k + 1 ∧ i = .int .i64 k ∧ at_ = .int .i64 z ∧ -1 ≤ z ∧ z < mN ∧ IsCur w1 wr cb cv ls (stAt M z).1 (stAt M z).2 ∧ w6.grownBy wr (some cb))
  case atStart => exact ⟨0, -1, Nat.zero_le _, rfl, rfl, rfl, by omega, by omega, by rw [hst0.out]; exact Hcur6.out, World.grownBy.refl _ _⟩
  case round =>
    obtain ⟨k, z, hk, rfl, rfl, rfl, hz0, hz1, hcur, hg⟩ := hrel
    have hbw : Below w.heap.size w wr := Hb6.out.trans (grown_below hg (by omega) Hb6.out.size)
    by_cases hkn : k < n
    · obtain ⟨b, off, rfl, hcell⟩ := Hsx.out (by omega)
      obtain ⟨c1, c2⟩ := hcell k hkn
      have d1 := (hbw.cell (block_lt_of_cell c1)).trans c1
      have d2 := (hbw.cell (block_lt_of_cell c2)).trans c2
      generalize ss.getD k (0, 0) = q at *
      obtain ⟨kd, K⟩ := q
      dsimp only at d1 d2
      have Hcur7 := Lib.hid hcur
      have Hg7 := Lib.hid hg
      have Hbw := Lib.hid hbw
      clear hcell c1 c2 hcur hg hbw
      have hx0 : (wr.alloc (.cells #[.int .i64 kd, .int .i64 K] 50)).cell? ⟨wr.heap.size, 0, none⟩ = some (.int .i64 kd) := by rw [World.cell?_alloc_mark]; rfl
      have hx1 : (wr.alloc (.cells #[.int .i64 kd, .int .i64 K] 50)).cell? ⟨wr.heap.size, 1, none⟩ = some (.int .i64 K) := by rw [World.cell?_alloc_mark]; rfl
      have hbx := Hbw.out.alloc Hbw.out.size (.cells #[.int .i64 kd, .int .i64 K] 50)
      have hcx := cur_alloc Hcur7.out (.cells #[.int .i64 kd, .int .i64 K] 50)
      have hgx : w6.grownBy (wr.alloc (.cells #[.int .i64 kd, .int .i64 K] 50)) (some cb) := Hg7.out.trans (World.grownBy_alloc _ _ _)
      have hval := valid_any _ _ _ _ _ _ _ hcx
      have Hval := Lib.hid hval
      have hwrx : wr.heap.size < (wr.alloc (.cells #[.int .i64 kd, .int .i64 K] 50)).heap.size := by simp
      have Hcx := Lib.hid hcx
      have Hgx := Lib.hid hgx
      have Hbx := Lib.hid hbx
      have Hx0 := Lib.hid hx0
      have Hx1 := Lib.hid hx1
      have Hwrx := Lib.hid hwrx
      clear hcx hgx hbx hval hx0 hx1 hwrx
      go_wp2_with fail
      refine Hval.out.mono ?_
      rintro e w' ⟨rfl, rfl⟩
      generalize hwx : wr.alloc (.cells #[.int .i64 kd, .int .i64 K] 50) = wx at *
      have x0 := Hx0.out
      have x1 := Hx1.out
      clear hwx
      go_upto_block 2 with (fail)
      go_cut [8, 11] (fun at_ ok wy => ∃ z' : Int, at_ = .int .i64 z' ∧ -1 ≤ z' ∧ z' ≤ mN ∧ ok = .bool (stAt M z').2 ∧ IsCur w1 wy cb cv ls (stAt M z').1 (stAt M z').2 ∧ w6.grownBy wy (some cb))
      case first =>
        rcases (by omega : kd = 1 ∨ kd = 2 ∨ kd = 3 ∨ kd = 4 ∨ kd = 5 ∨ (kd ≠ 1 ∧ kd ≠ 2 ∧ kd ≠ 3 ∧ kd ≠ 4 ∧ kd ≠ 5)) with rfl | rfl | rfl | rfl | rfl | ⟨k1, k2, k3, k4, k5⟩
        · have hf := first_any _ _ _ _ _ _ _ Hcx.out
          rw [at_first Hasc.out, ← HM.out] at hf
          have Hf := Lib.hid hf
          clear hf
          go_wp2_with fail
          refine Hf.out.mono ?_
          rintro e w8 ⟨rfl, hc8, hg8⟩
          have Hc8 := Lib.hid hc8
          have Hg8 := Lib.hid (Hgx.out.trans hg8)
          clear hc8 hg8
          go_wp2
          go_meet
          exact ⟨0, rfl, by omega, by omega, rfl, Hc8.out, Hg8.out⟩
        · have hf := last_any _ _ _ _ _ _ _ Hcx.out
          rw [at_last Hasc.out, ← HM.out, ← HmN.out] at hf
          have Hf := Lib.hid hf
          clear hf
          go_wp2_with fail
          refine Hf.out.mono ?_
          rintro e w8 ⟨rfl, hc8, hg8⟩
          have Hc8 := Lib.hid hc8
          have Hg8 := Lib.hid (Hgx.out.trans hg8)
          clear hc8 hg8
          go_wp2
          go_meet
          exact ⟨(mN : Int) - 1, rfl, by omega, by omega, rfl, Hc8.out, Hg8.out⟩
        · by_cases hzz : z < 0
          · have hst := stAt_out (M := M) (z := z) (.inl hzz)
            have hcx := Hcx.out
            rw [hst] at hcx
            have Hf := Lib.hid (next_off _ _ _ _ _ _ hcx)
            have Hst := Lib.hid hst
            clear hst hcx
            go_wp2_with fail
            refine Hf.out.mono ?_
            rintro e w8 ⟨rfl, rfl⟩
            go_wp2
            go_meet
            exact ⟨z, rfl, by omega, by omega, by rw [Hst.out], Hcx.out, Hgx.out⟩
          · obtain ⟨t, rfl⟩ : ∃ t : Nat, z = t := ⟨z.toNat, by omega⟩
            have ht : t < M.length := by have := HmN.out; omega
            have hst := stAt_in ht
            have hcx := Hcx.out
            rw [hst] at hcx
            have hf := next_any _ _ _ _ _ _ _ hcx Hok.out rfl
            have hn := at_next Hasc.out (t := t) (by rw [← HM.out]; exact ht)
            rw [← HM.out] at hn
            rw [hn] at hf
            have Hf := Lib.hid hf
            clear hst hcx hf hn ht
            go_wp2_with fail
            refine Hf.out.mono ?_
            rintro e w8 ⟨rfl, hc8, hg8⟩
            have Hc8 := Lib.hid hc8
            have Hg8 := Lib.hid (Hgx.out.trans hg8)
            clear hc8 hg8
            go_wp2
            go_meet
            exact ⟨(t : Int) + 1, rfl, by omega, by omega, rfl, Hc8.out, Hg8.out⟩
        · by_cases hzz : z < 0
          · obtain rfl : z = -1 := by omega
            have hst := stAt_out (M := M) (z := -1) (.inl hzz)
            have hcx := Hcx.out
            rw [hst] at hcx
            have Hf := Lib.hid (prev_off _ _ _ _ _ _ hcx)
            have Hst := Lib.hid hst
            clear hst hcx
            go_wp2_with fail
            refine Hf.out.mono ?_
            rintro e w8 ⟨rfl, rfl⟩
            go_wp2
            go_meet
            exact ⟨-1, rfl, by omega, by omega, by rw [Hst.out], Hcx.out, Hgx.out⟩
          · obtain ⟨t, rfl⟩ : ∃ t : Nat, z = t := ⟨z.toNat, by omega⟩
            have ht : t < M.length := by have := HmN.out; omega
            have hst := stAt_in ht
            have hcx := Hcx.out
            rw [hst] at hcx
            have hf := prev_any _ _ _ _ _ _ _ hcx Hok.out rfl
            have hn := at_prev Hasc.out (t := t) (by rw [← HM.out]; exact ht)
            rw [← HM.out] at hn
            rw [hn] at hf
            have Hf := Lib.hid hf
            clear hst hcx hf hn ht
            go_wp2_with fail
            refine Hf.out.mono ?_
            rintro e w8 ⟨rfl, hc8, hg8⟩
            have Hc8 := Lib.hid hc8
            have Hg8 := Lib.hid (Hgx.out.trans hg8)
            clear hc8 hg8
            go_wp2
            go_meet
            exact ⟨(t : Int) - 1, rfl, by omega, by omega, rfl, Hc8.out, Hg8.out⟩
        · have hf := seek_any _ _ _ _ _ _ _ K Hcx.out Hok.out
          rw [at_seek Hasc.out, ← HM.out] at hf
          have hcl5 := ceilL_le M K
          rw [← HmN.out] at hcl5
          have Hf := Lib.hid hf
          clear hf
          go_wp2_with fail
          refine Hf.out.mono ?_
          rintro e w8 ⟨rfl, hc8, hg8⟩
          have Hc8 := Lib.hid hc8
          have Hg8 := Lib.hid (Hgx.out.trans hg8)
          have hwcb : wr.heap.size ≠ cb := fun e => by have := Hg7.out.size; omega
          have hit8 : IsIt w8 (.slice la mN lc) M := by
            have := own_far Ho.out Hg8.out (fun r e => by cases e; show cb < w4.heap.size; exact hcl)
            rw [HmN.out] at this ⊢
            exact isIt_own this
          have Hce := Lib.hid (refceil_any _ M K w8 hit8)
          clear hit8
          have x18 : w8.cell? ⟨wr.heap.size, 1, none⟩ = some (.int .i64 K) := cell_grown hg8 x1 hwcb
          clear hc8 hg8
          go_wp2_with fail
          refine Hce.out.mono ?_
          rintro e w' ⟨rfl, rfl⟩
          go_wp2
          go_meet
          exact ⟨ceilL M K, rfl, by omega, by omega, rfl, Hc8.out, Hg8.out⟩
        · have t1 : (kd == 1) = false := by simp [k1]
          have t2 : (kd == 2) = false := by simp [k2]
          have t3 : (kd == 3) = false := by simp [k3]
          have t4 : (kd == 4) = false := by simp [k4]
          have t5 : (kd == 5) = false := by simp [k5]
          go_wp2
          go_meet
          exact ⟨z, rfl, by omega, by omega, rfl, Hcx.out, Hgx.out⟩
      case rest =>
        obtain ⟨z', rfl, hz0', hz1', rfl, hcy, hgy⟩ := hcut
        have hit0 : IsIt wc (.slice la mN lc) M := by
          have := own_far Ho.out hgy (fun r e => by cases e; show cb < w4.heap.size; exact hcl)
          rw [HmN.out] at this ⊢
          exact isIt_own this
        have hbc : Below w.heap.size w wc := Hb6.out.trans (grown_below hgy (by omega) Hb6.out.size)
        by_cases hin : 0 ≤ z' ∧ z' < mN
        · obtain ⟨t, rfl⟩ : ∃ t : Nat, z' = t := ⟨z'.toNat, by omega⟩
          have htM : t < M.length := by have := HmN.out; omega
          have htm : t < mN := by omega
          have hst := stAt_in htM
          obtain ⟨-, -, -, hx0⟩ := hit0.at
          obtain ⟨bl, ol, rfl, hx1⟩ := hx0 (by omega)
          obtain ⟨ml0, ml1⟩ := hx1 t htm
          rw [hst] at hcy ⊢
          have Hst := Lib.hid hst
          generalize M.getD t (0, 0) = q at *
          obtain ⟨qx, qy⟩ := q
          dsimp only at ml0 ml1
          have hi := item_any _ _ _ _ _ _ _ hcy
          have Hcy := Lib.hid hcy
          have Hgy := Lib.hid hgy
          have Hi := Lib.hid hi
          have Ml0 := Lib.hid ml0
          have Ml1 := Lib.hid ml1
          clear hcy hgy hi hst hit0 hx0 hx1 ml0 ml1 hin htM
          · go_wp2_with fail
            refine Hi.out.mono ?_
            rintro e w9 ⟨rfl, hb9⟩
            have hs9 := hb9.size
            have hcd := cur_alloc (cur_below Hcy.out hb9) (.cells #[.int .i64 qx, .int .i64 qy] 42)
            have hgd : w6.grownBy (w9.alloc (.cells #[.int .i64 qx, .int .i64 qy] 42)) (some cb) := (Hgy.out.trans (grown_of_below hb9)).trans (World.grownBy_alloc _ _ _)
            have hv := fun m => valid_any _ _ _ _ _ _ _ (cur_drewN hcd m)
            have d0 : (w9.alloc (.cells #[.int .i64 qx, .int .i64 qy] 42)).cell? ⟨w9.heap.size, 0, none⟩ = some (.int .i64 qx) := by rw [World.cell?_alloc_mark]; rfl
            have d1 : (w9.alloc (.cells #[.int .i64 qx, .int .i64 qy] 42)).cell? ⟨w9.heap.size, 1, none⟩ = some (.int .i64 qy) := by rw [World.cell?_alloc_mark]; rfl
            have hbd : Below wc.heap.size wc (w9.alloc (.cells #[.int .i64 qx, .int .i64 qy] 42)) := hb9.alloc hb9.size _
            have Hbd := Lib.hid hbd
            have Hcd := Lib.hid hcd
            have Hgd := Lib.hid hgd
            have Hv := Lib.hid hv
            have D0 := Lib.hid d0
            have D1 := Lib.hid d1
            clear hcd hgd hv d0 d1 hb9 hbd
            go_wp2_with fail
            generalize w9.alloc (.cells #[.int .i64 qx, .int .i64 qy] 42) = wd at *
            have d0 := D0.out
            have d1 := D1.out
            have ml0 := (Hbd.out.cell (block_lt_of_cell Ml0.out)).trans Ml0.out
            have ml1 := (Hbd.out.cell (block_lt_of_cell Ml1.out)).trans Ml1.out
            go_quiet ((refine Calls.quiet_of_same ((Hv.out _).mono fun _ _ h => ⟨h.1, h.2.symm⟩)))
            go_wp2
            go_roundg (n - (k + 1) + 1)
            case rel => exact ⟨k + 1, t, by omega, rfl, by go_num, rfl, by omega, by omega, by rw [Hst.out]; exact cur_drewN Hcd.out _, grown_drewN Hgd.out _⟩
            case measure => omega
        · have hst := stAt_out (M := M) (z := z') (by have := HmN.out; omega)
          rw [hst] at hcy ⊢
          have hi := item_any _ _ _ _ _ _ _ hcy
          have Hcy := Lib.hid hcy
          have Hgy := Lib.hid hgy
          have Hi := Lib.hid hi
          clear hcy hgy hi hst hit0
          by_cases hge : z' < mN
          · obtain rfl : z' = -1 := by omega
            go_wp2_with fail
            refine Hi.out.mono ?_
            rintro e w9 ⟨rfl, hb9⟩
            have hs9 := hb9.size
            have hcd := cur_alloc (cur_below Hcy.out hb9) (.cells #[.int .i64 0, .int .i64 0] 42)
            have hgd : w6.grownBy (w9.alloc (.cells #[.int .i64 0, .int .i64 0] 42)) (some cb) := (Hgy.out.trans (grown_of_below hb9)).trans (World.grownBy_alloc _ _ _)
            have hv := fun m => valid_any _ _ _ _ _ _ _ (cur_drewN hcd m)
            have d0 : (w9.alloc (.cells #[.int .i64 0, .int .i64 0] 42)).cell? ⟨w9.heap.size, 0, none⟩ = some (.int .i64 0) := by rw [World.cell?_alloc_mark]; rfl
            have d1 : (w9.alloc (.cells #[.int .i64 0, .int .i64 0] 42)).cell? ⟨w9.heap.size, 1, none⟩ = some (.int .i64 0) := by rw [World.cell?_alloc_mark]; rfl
            have hbd : Below wc.heap.size wc (w9.alloc (.cells #[.int .i64 0, .int .i64 0] 42)) := hb9.alloc hb9.size _
            have Hbd := Lib.hid hbd
            have Hcd := Lib.hid hcd
            have Hgd := Lib.hid hgd
            have Hv := Lib.hid hv
            have D0 := Lib.hid d0
            have D1 := Lib.hid d1
            clear hcd hgd hv d0 d1 hb9 hbd
            go_wp2_with fail
            generalize w9.alloc (.cells #[.int .i64 0, .int .i64 0] 42) = wd at *
            have d0 := D0.out
            have d1 := D1.out
            go_quiet ((refine Calls.quiet_of_same ((Hv.out _).mono fun _ _ h => ⟨h.1, h.2.symm⟩)))
            go_wp2
            go_roundg (n - (k + 1) + 1)
            case rel => exact ⟨k + 1, -1, by omega, rfl, by go_num, rfl, by omega, by omega, by rw [hst0.out]; exact cur_drewN Hcd.out _, grown_drewN Hgd.out _⟩
            case measure => omega
          · obtain rfl : z' = mN := by omega
            go_wp2_with fail
            refine Hi.out.mono ?_
            rintro e w9 ⟨rfl, hb9⟩
            have hs9 := hb9.size
            have hcd := cur_alloc (cur_below Hcy.out hb9) (.cells #[.int .i64 0, .int .i64 0] 42)
            have hgd : w6.grownBy (w9.alloc (.cells #[.int .i64 0, .int .i64 0] 42)) (some cb) := (Hgy.out.trans (grown_of_below hb9)).trans (World.grownBy_alloc _ _ _)
            have hv := fun m => valid_any _ _ _ _ _ _ _ (cur_drewN hcd m)
            have d0 : (w9.alloc (.cells #[.int .i64 0, .int .i64 0] 42)).cell? ⟨w9.heap.size, 0, none⟩ = some (.int .i64 0) := by rw [World.cell?_alloc_mark]; rfl
            have d1 : (w9.alloc (.cells #[.int .i64 0, .int .i64 0] 42)).cell? ⟨w9.heap.size, 1, none⟩ = some (.int .i64 0) := by rw [World.cell?_alloc_mark]; rfl
            have hbd : Below wc.heap.size wc (w9.alloc (.cells #[.int .i64 0, .int .i64 0] 42)) := hb9.alloc hb9.size _
            have Hbd := Lib.hid hbd
            have Hcd := Lib.hid hcd
            have Hgd := Lib.hid hgd
            have Hv := Lib.hid hv
            have D0 := Lib.hid d0
            have D1 := Lib.hid d1
            clear hcd hgd hv d0 d1 hb9 hbd
            go_wp2_with fail
            generalize w9.alloc (.cells #[.int .i64 0, .int .i64 0] 42) = wd at *
            have d0 := D0.out
            have d1 := D1.out
            go_quiet ((refine Calls.quiet_of_same ((Hv.out _).mono fun _ _ h => ⟨h.1, h.2.symm⟩)))
            go_wp2
            go_roundg (n - (k + 1) + 1)
            case rel => exact ⟨k + 1, -1, by omega, rfl, by go_num, rfl, by omega, by omega, by rw [hst0.out]; exact cur_drewN Hcd.out _, grown_drewN Hgd.out _⟩
            case measure => omega
    · have hkn' : k = n := by omega
      subst hkn'
      go_wp2_with fail
      refine (awake_any _).mono ?_
      rintro e w' ⟨rfl, hb9⟩
      go_wp2
      go_ret
      exact ⟨rfl, hbw.trans (hb9.mono hbw.size)⟩
set_option maxHeartbeats 1600000 in
theorem walks_skip (a sa : Option Addr) (c sc n : Nat) (ls : List (List It)) (w : World) (h : IsIts w (.slice a ls.length c) ls) (hn : n ≤ maxLen) (hs : smallI ls = false ∨ (smallI ls = true ∧ 80 < (n : Int))) :
    Calls Try.prog 7 #[.slice a ls.length c, .slice sa n sc] w fun e w' => e = .returned (.bool true) ∧ Below w.heap.size w w' := by
  have H := Lib.hid h
  rcases hs with hs | ⟨hs, h80⟩
  · have Hs := Lib.hid hs
    clear h hs
    go_enter Try.func7, Try.ntmps7
    go_wp2_with fail
    refine (small_any _ ls w H.out).mono ?_
    rintro e w' ⟨rfl, rfl⟩
    rw [Hs.out]
    go_wp2_with fail
    refine (awake_any w).mono ?_
    rintro e w' ⟨rfl, hb⟩
    go_wp2
    go_ret
    exact ⟨rfl, hb⟩
  · have Hs := Lib.hid hs
    clear h hs
    go_enter Try.func7, Try.ntmps7
    go_wp2_with fail
    refine (small_any _ ls w H.out).mono ?_
    rintro e w' ⟨rfl, rfl⟩
    rw [Hs.out]
    go_wp2_with fail
    refine (awake_any w).mono ?_
    rintro e w' ⟨rfl, hb⟩
    go_wp2
    go_ret
    exact ⟨rfl, hb⟩
set_option maxHeartbeats 1600000 in
theorem walks_no (a sa : Option Addr) (c sc n : Nat) (ls : List (List It)) (w : World) (h : IsIts w (.slice a ls.length c) ls) (hs : smallI ls = true) (h80 : (n : Int) ≤ 80) (hr : runsB ls = false) :
    Calls Try.prog 7 #[.slice a ls.length c, .slice sa n sc] w fun e w' => e = .returned (.bool true) ∧ Below w.heap.size w w' := by
  have H := Lib.hid h
  obtain ⟨h10, h40⟩ := smallI_iff hs
  have Hs := Lib.hid hs
  have Hr := Lib.hid hr
  have H40 := Lib.hid h40
  clear h hs hr h40
  go_enter Try.func7, Try.ntmps7
  go_wp2_with fail
  refine (small_any _ ls w H.out).mono ?_
  rintro e w' ⟨rfl, rfl⟩
  rw [Hs.out]
  go_wp2_with fail
  refine (all_any _ ls w H.out (by omega) (fun i hi => by have := H40.out i hi; omega)).mono ?_
  rintro e w2 ⟨iv, rfl, hits, hnil, hb2⟩
  have Hb2 := Lib.hid hb2
  have hw2 := hb2.size
  have Hnew := Lib.hid (new_any iv ls w2 hits hnil (by omega))
  obtain ⟨ia, ic, rfl, -, -, -⟩ := id hits
  clear hits hnil hb2
  go_wp2_with fail
  refine Hnew.out.mono ?_
  rintro e w4 (⟨-, rfl, hb4⟩ | ⟨hyes, -⟩)
  · have hb4' : Below w.heap.size w w4 := Hb2.out.trans (hb4.mono hw2)
    have Hb4 := Lib.hid hb4'
    have hru := runs_any _ ls w4 (H.out.below hb4')
    rw [Hr.out] at hru
    have Hru := Lib.hid hru
    clear hb4 hb4' hru Hnew
    go_wp2_with fail
    refine Hru.out.mono ?_
    rintro e w' ⟨rfl, nq, rfl⟩
    go_wp2_with fail
    refine (awake_any _).mono ?_
    rintro e w5 ⟨rfl, hb5⟩
    go_wp2
    go_ret
    have hb6 := below_drewN Hb4.out nq
    exact ⟨rfl, hb6.trans (hb5.mono hb6.size)⟩
  · rw [Hr.out] at hyes; cases hyes
theorem mergeWalks_walk (v : Value) (ls : List (List It)) (v1 : Value) (ss : List It) (w : World) (h : IsIts w v ls) (h1 : IsIt w v1 ss) :
    Calls Try.prog 7 #[v, v1] w fun e w' => e = .returned (.bool true) ∧ Below w.heap.size w w' := by
  obtain ⟨a, c, rfl, -, -, -⟩ := id h
  obtain ⟨sa, sc, rfl, q1, q2, -⟩ := id h1
  cases hs : smallI ls with
  | false => exact walks_skip a sa c sc _ ls w h (Nat.le_trans q1 q2) (.inl hs)
  | true =>
    by_cases h80 : (ss.length : Int) ≤ 80
    · cases hr : runsB ls with
      | false => exact walks_no a sa c sc _ ls w h hs h80 hr
      | true => exact walks_yes a sa c sc ls ss w h h1 hs hr h80
    · exact walks_skip a sa c sc _ ls w h (Nat.le_trans q1 q2) (.inr ⟨hs, by omega⟩)
end Go.Proofs.Ytcgkpbhoiaeolaa.Tithe
