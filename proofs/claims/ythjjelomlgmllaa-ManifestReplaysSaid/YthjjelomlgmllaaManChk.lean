/- manifest.Record.Check: walked (printed by mkmanchk.py). -/
import Derived.Test.YthjjelomlgmllaaManZone
import Derived.Test.YthjjelomlgmllaaLevChk
import Derived.Test.YthjjelomlgmllaaLevAppC
namespace Go.Proofs.Ythjjelomlgmllaa.Tithe
open Go.RowKit Go.Sort
set_option linter.unusedVariables false
set_option maxRecDepth 100000
/-- a record -/
structure Rc where
  wh : Bool
  seq : Int
  logs : List Int
  add : List (Int × Mr)
  drop : List Int
def seqOk (s : Int) : Bool := decide (0 ≤ s) && decide (s ≤ 1099511627776)
def recHead (r : Rc) : Bool := seqOk r.seq && zsOk r.logs && zsOk r.drop && decide (r.add.length ≤ 64)
/-- is a number among the first ones? -/
def seenI (l : List Int) : Nat → Nat → Bool
  | 0, _ => false
  | k + 1, z => if z = (l.getD k 0).toNat then true else seenI l k z
def nodI (l : List Int) : Nat → Bool
  | 0 => true
  | k + 1 => nodI l k && !seenI l k (l.getD k 0).toNat
def plOk (p : Int × Mr) : Bool := decide (0 ≤ p.1) && decide (p.1 < 4) && metaOk p.2.1.z p.2.1.n p.2.1.a p.2.1.b p.2.1.refs
def plsOk (l : List (Int × Mr)) : Nat → Bool
  | 0 => true
  | k + 1 => plsOk l k && plOk (l.getD k (0, Mr.nil))
def recOk (r : Rc) : Bool := recHead r && nodI r.logs r.logs.length && plsOk r.add r.add.length
def chkR (r : Rc) : Int := if recOk r then 0 else 20
attribute [local go_sem] Oper.semAt_some
set_option maxHeartbeats 6400000 in
theorem rcheck_any (wh : Bool) (s : Int) (vl va vd : Value) (ls : List Int) (ad : List (Int × Mr)) (dr : List Int) (w : World) (hl : IsZs w vl ls) (hd : IsZs w vd dr) (ha : IsPl w va ad) (hal : ad.length ≤ 100000) (hrl : ∀ p ∈ ad, p.2.1.refs.length ≤ 1000000) :
    Calls Try.prog 14 #[.agg #[.bool wh, .int .i64 s, vl, va, vd]] w fun e w' => e = .returned (.int .i64 (chkR ⟨wh, s, ls, ad, dr⟩)) ∧ Below w.heap.size w w' := by
  obtain ⟨H, hH⟩ : ∃ H, H = recHead ⟨wh, s, ls, ad, dr⟩ := ⟨_, rfl⟩
  have HH := Lib.hid hH
  have hE : Hid (recOk ⟨wh, s, ls, ad, dr⟩ = (H && nodI ls ls.length && plsOk ad ad.length)) := Lib.hid (by rw [hH]; rfl)
  unfold chkR
  generalize recOk ⟨wh, s, ls, ad, dr⟩ = E at hE ⊢
  have HE := hE
  obtain ⟨V, hV⟩ : ∃ q : Int, q = if E then 0 else 20 := ⟨_, rfl⟩
  have HV := Lib.hid hV
  rw [← hV]
  clear hH hE hV
  obtain ⟨la, lc, rfl, -, -, -⟩ := id hl
  obtain ⟨da, dc, rfl, -, -, -⟩ := id hd
  obtain ⟨aa, ac, rfl, -, -, -⟩ := id ha.1
  obtain ⟨nl, hnl⟩ : ∃ q, q = ls.length := ⟨_, rfl⟩
  obtain ⟨nd, hnd⟩ : ∃ q, q = dr.length := ⟨_, rfl⟩
  obtain ⟨na, hna⟩ : ∃ q, q = ad.length := ⟨_, rfl⟩
  have Hnl := Lib.hid hnl
  have Hnd := Lib.hid hnd
  have Hna := Lib.hid hna
  rw [← hnl] at hl HE ⊢
  rw [← hnd] at hd ⊢
  rw [← hna] at ha hal HE ⊢
  obtain ⟨-, -, -, hlx⟩ := hl.at
  obtain ⟨-, -, -, hax⟩ := ha.1.at
  have Hlx := Lib.hid hlx
  have Hax := Lib.hid hax
  have HL := Lib.hid hl
  have HD := Lib.hid hd
  have HA := Lib.hid ha
  have HR := Lib.hid hrl
  clear hnl hnd hna hl hd ha hlx hax hrl
  go_enter Try.func14, Try.ntmps14
  go_upto_region 1 with fail
  have hA1 : Below w.heap.size w (w.alloc (.cells #[.bool wh, .int .i64 s, .slice la nl lc, .slice aa na ac, .slice da nd dc] 27)) := (Below.refl _ _).alloc (Nat.le_refl _) _
  have HB := Lib.hid (blk_of_alloc w (.cells #[.bool wh, .int .i64 s, .slice la nl lc, .slice aa na ac, .slice da nd dc] 27))
  have HA1 := Lib.hid hA1
  have Hz1 := Lib.hid (zones_any _ ls _ (HL.out.below hA1))
  have Hz2 := Lib.hid (zones_any _ dr _ (HD.out.below hA1))
  obtain ⟨rb, hrb⟩ : ∃ q, q = w.heap.size := ⟨_, rfl⟩
  have Hrb := Lib.hid hrb
  rw [← hrb] at HB ⊢
  clear hA1 hrb HL HD
  generalize w.alloc (.cells #[.bool wh, .int .i64 s, .slice la nl lc, .slice aa na ac, .slice da nd dc] 27) = W at *
  go_cut [3] (fun okv wc => okv = .bool H ∧ wc = W)
  case first =>
    have hcc := fun j => cell_of_blk HB.out j
    by_cases h1 : 0 ≤ s
    rotate_left
    · have hd1 : decide (s ≥ 0) = false := decide_eq_false (by omega)
      have hd2 : decide (0 ≤ s) = false := decide_eq_false (by omega)
      have Hh : Hid (H = false) := Lib.hid (by rw [HH.out]; unfold recHead seqOk; simp [h1])
      go_wp2_with fail
      go_meet
      case rel => exact ⟨by rw [Hh.out], rfl⟩
    have hd1 : decide (s ≥ 0) = true := decide_eq_true h1
    have hd2 : decide (0 ≤ s) = true := decide_eq_true h1
    by_cases h2 : s ≤ 1099511627776
    rotate_left
    · have hd3 : decide (s ≤ 1099511627776) = false := decide_eq_false h2
      have Hh : Hid (H = false) := Lib.hid (by rw [HH.out]; unfold recHead seqOk; simp [h2])
      go_wp2_with fail
      go_meet
      case rel => exact ⟨by rw [Hh.out], rfl⟩
    have hd3 : decide (s ≤ 1099511627776) = true := decide_eq_true h2
    cases h3 : zsOk ls with
    | false =>
      have Hz := Hz1
      rw [h3] at Hz
      have Hh : Hid (H = false) := Lib.hid (by rw [HH.out]; unfold recHead; dsimp only; rw [h3, Bool.and_false]; rfl)
      clear Hz1
      go_wp2_with fail
      refine Hz.out.mono ?_
      rintro e w2 ⟨rfl, rfl⟩
      go_wp2_with fail
      go_meet
      case rel => exact ⟨by rw [Hh.out], rfl⟩
    | true =>
      have Hz := Hz1
      rw [h3] at Hz
      clear Hz1
      cases h4 : zsOk dr with
      | false =>
        have Hy := Hz2
        rw [h4] at Hy
        have Hh : Hid (H = false) := Lib.hid (by rw [HH.out]; unfold recHead; dsimp only; rw [h4, Bool.and_false]; rfl)
        clear Hz2
        go_wp2_with fail
        refine Hz.out.mono ?_
        rintro e w2 ⟨rfl, rfl⟩
        go_wp2_with fail
        refine Hy.out.mono ?_
        rintro e w3 ⟨rfl, rfl⟩
        go_wp2_with fail
        go_meet
        case rel => exact ⟨by rw [Hh.out], rfl⟩
      | true =>
        have Hy := Hz2
        rw [h4] at Hy
        clear Hz2
        have Hh : Hid (H = decide ((na : Int) ≤ 64)) := Lib.hid (by
          rw [HH.out]
          unfold recHead seqOk
          dsimp only
          rw [h3, h4, hd2, hd3, ← Hna.out]
          by_cases q : na ≤ 64
          · rw [decide_eq_true (show (na : Int) ≤ 64 by omega)]; simp [q]
          · rw [decide_eq_false (show ¬ (na : Int) ≤ 64 by omega)]; simp [q])
        go_wp2_with fail
        refine Hz.out.mono ?_
        rintro e w2 ⟨rfl, rfl⟩
        go_wp2_with fail
        refine Hy.out.mono ?_
        rintro e w3 ⟨rfl, rfl⟩
        go_wp2_with fail
        go_meet
        case rel => exact ⟨by rw [Hh.out], rfl⟩
  case rest =>
    obtain ⟨rfl, rfl⟩ := hcut
    clear Hz1 Hz2
    go_upto_if 36 with (first | (with_reducible refine wpList_value rfl _ _ (run_build_op 99 _ rfl (zB_build _)) ?_) | (with_reducible refine wpList_value rfl _ _ (run_alloc_op 99 _ rfl (zB_alloc _)) ?_) | (with_reducible refine wpList_store_new rfl 99 (.tmp 4) (.tmp 35) rfl _ zB zB rfl rfl rfl zB_info rfl zB_all ?_))
    try simp only [Act.put, List.setIfInBounds_toArray, List.set_cons_zero, List.set_cons_succ]
    have hB2 : Below wc.heap.size wc (wc.alloc (.cells zB 99)) := (Below.refl _ _).alloc (Nat.le_refl _) _
    have HS2 := Lib.hid (blk_of_alloc wc (.cells zB 99))
    have HB2 := Lib.hid (HA1.out.trans (hB2.mono HA1.out.size))
    have HRB := Lib.hid ((hB2.block _ (blk_lt HB.out)).trans HB.out)
    obtain ⟨sb, hsb⟩ : ∃ q, q = wc.heap.size := ⟨_, rfl⟩
    have Hsb : Hid (w.heap.size ≤ sb ∧ rb < sb) := Lib.hid ⟨by rw [hsb]; exact HA1.out.size, by rw [hsb]; exact blk_lt HB.out⟩
    rw [← hsb] at HS2 ⊢
    clear hsb hB2 HB HA1
    generalize wc.alloc (.cells zB 99) = X at *
    have hz0 : zB = bArr (seenI ls 0) := rfl
    rw [hz0] at HS2
    clear hz0
    go_cut [3] (fun okv wc => okv = .bool (H && nodI ls nl) ∧ Below w.heap.size w wc ∧ wc.heap[rb]? = some (.cells #[.bool wh, .int .i64 s, .slice la nl lc, .slice aa na ac, .slice da nd dc] 27 (0, 0)))
    case first =>
      cases H with
      | false =>
        go_wp2_with fail
        go_meet
        case rel => exact ⟨rfl, HB2.out, HRB.out⟩
      | true =>
        have Hzs : Hid (∀ z ∈ ls, 0 ≤ z ∧ z < 64) := Lib.hid (fun z hz => by
          have h1 := HH.out
          unfold recHead zsOk at h1
          dsimp only at h1
          have h2 := h1.symm
          simp only [Bool.and_eq_true, List.all_eq_true] at h2
          have h3 := h2.1.1.2.2 z hz
          unfold zoneOk at h3
          simp only [Bool.and_eq_true, decide_eq_true_eq] at h3
          exact h3)
        have hn64 : nl ≤ 64 := by
          have h1 := HH.out
          unfold recHead zsOk at h1
          dsimp only at h1
          have h2 := h1.symm
          simp only [Bool.and_eq_true, decide_eq_true_eq] at h2
          rw [Hnl.out]; exact h2.1.1.2.1
        have h2 : X.cell? ⟨rb, 2, none⟩ = some (.slice la nl lc) := (cell_of_blk HRB.out 2).trans rfl
        go_wp2_with fail
        go_loopw [3, 40] (fun okv iv wr => ∃ k : Nat, k ≤ nl ∧ iv = .int .i64 k ∧ okv = .bool (nodI ls k) ∧ wr.heap[sb]? = some (.cells (bArr (seenI ls k)) 99 (0, 0)) ∧ Below w.heap.size w wr ∧ wr.heap[rb]? = some (.cells #[.bool wh, .int .i64 s, .slice la nl lc, .slice aa na ac, .slice da nd dc] 27 (0, 0))) (fun _ i _ => nl - (intOf i).toNat)
        case atStart => exact ⟨0, Nat.zero_le _, rfl, rfl, HS2.out, HB2.out, HRB.out⟩
        case round =>
          clear HS2 HB2 HRB h2
          obtain ⟨wo, rfl⟩ : ∃ wo : World, wo = wr := ⟨_, rfl⟩
          obtain ⟨k, hk, rfl, rfl, hs, hbw, hrb⟩ := hrel
          have Hs := Lib.hid hs
          have Hbw := Lib.hid hbw
          have Hrb2 := Lib.hid hrb
          clear hs hbw hrb
          by_cases hkn : k < nl
          · obtain ⟨b, off, rfl, hcell⟩ := Hlx.out (by omega)
            obtain ⟨z, hzk⟩ : ∃ z, ls[k]? = some z := ⟨_, List.getElem?_eq_getElem (by rw [← Hnl.out]; exact hkn)⟩
            have hzz := Hzs.out z (List.mem_of_getElem? hzk)
            obtain ⟨z, rfl⟩ : ∃ y : Nat, z = y := ⟨z.toNat, by omega⟩
            have c0 := IsZs.row hcell hzk
            have d0 := (Hbw.out.cell (block_lt_of_cell c0)).trans c0
            have hg : (ls.getD k 0).toNat = z := by rw [List.getD_eq_getElem?_getD, hzk]; rfl
            have hz64 : z < 64 := by omega
            have hzi : (z : Int) < 64 := by omega
            have Hnk : Hid (nodI ls (k + 1) = (nodI ls k && !seenI ls k z)) := Lib.hid (by show (nodI ls k && !seenI ls k (ls.getD k 0).toNat) = _; rw [hg])
            have hsn : seenI ls (k + 1) = fun y => if y = z then true else seenI ls k y := by funext y; show (if y = (ls.getD k 0).toNat then true else _) = _; rw [hg]
            have hget := bArr_get (seenI ls k) hz64
            have hset := bArr_set (seenI ls k) hz64
            rw [← hsn] at hset
            have s0 : wo.cell? ⟨sb, z, none⟩ = some (.bool (seenI ls k z)) := (cell_of_blk Hs.out z).trans hget
            have s1 := frozen_of_blk Hs.out z
            have Hset := Lib.hid ((blk_set (i := z) (v := .bool true) Hs.out).trans (by rw [hset]))
            have Hbs := Lib.hid (Hbw.out.setCell (p := ⟨sb, z, none⟩) Hsb.out.1 (.bool true))
            have Hrs := Lib.hid ((Below.heap_setCell wo ⟨sb, z, none⟩ (.bool true) rb (by have := Hsb.out.2; show rb ≠ sb; omega)).trans Hrb2.out)
            clear hcell hzk c0 hg hsn hget hset
            cases hn : nodI ls k with
            | false =>
              rw [hn] at Hnk
              have Hnk2 : Hid (nodI ls (k + 1) = false) := Lib.hid (by rw [Hnk.out]; rfl)
              clear hn
              go_wp2_with fail
              go_roundw
              case rel => exact ⟨k + 1, by omega, by go_num, by rw [Hnk2.out], Hset.out, Hbs.out, Hrs.out⟩
              case measure => simp [intOf]; omega
            | true =>
              rw [hn] at Hnk
              cases hq : seenI ls k z with
              | false =>
                rw [hq] at Hnk s0
                have Hnk2 : Hid (nodI ls (k + 1) = true) := Lib.hid (by rw [Hnk.out]; rfl)
                clear hn hq
                go_wp2_with fail
                go_roundw
                case rel => exact ⟨k + 1, by omega, by go_num, by rw [Hnk2.out], Hset.out, Hbs.out, Hrs.out⟩
                case measure => simp [intOf]; omega
              | true =>
                rw [hq] at Hnk s0
                have Hnk2 : Hid (nodI ls (k + 1) = false) := Lib.hid (by rw [Hnk.out]; rfl)
                clear hn hq
                go_wp2_with fail
                go_roundw
                case rel => exact ⟨k + 1, by omega, by go_num, by rw [Hnk2.out], Hset.out, Hbs.out, Hrs.out⟩
                case measure => simp [intOf]; omega
          · obtain rfl : k = nl := by omega
            go_wp2_with fail
            go_meet
            case rel => exact ⟨by simp, Hbw.out, Hrb2.out⟩
    case rest =>
      obtain ⟨rfl, hbw, hrb⟩ := hcut
      have HBw := Lib.hid hbw
      have h3 : wc.cell? ⟨rb, 3, none⟩ = some (.slice aa na ac) := (cell_of_blk hrb 3).trans rfl
      obtain ⟨H2, hH2⟩ : ∃ q, q = (H && nodI ls nl) := ⟨_, rfl⟩
      rw [← hH2] at HE ⊢
      clear hbw hrb hH2 HH Hlx HS2 HB2 HRB
      go_wp2_with fail
      go_loopw [3, 58] (fun okv iv wr => ∃ k : Nat, k ≤ na ∧ iv = .int .i64 k ∧ okv = .bool (H2 && plsOk ad k) ∧ Below w.heap.size w wr) (fun _ i _ => na - (intOf i).toNat)
      case atStart => exact ⟨0, Nat.zero_le _, rfl, by simp [plsOk], HBw.out⟩
      case round =>
        clear HBw h3
        obtain ⟨wo, rfl⟩ : ∃ wo : World, wo = wr := ⟨_, rfl⟩
        obtain ⟨k, hk, rfl, rfl, hbw⟩ := hrel
        have Hbw := Lib.hid hbw
        clear hbw
        by_cases hkn : k < na
        · obtain ⟨b, off, rfl, hcell⟩ := Hax.out (by omega)
          obtain ⟨⟨lv, ⟨⟨mz, mn, ka, kb, refs⟩, vr⟩⟩, hzk⟩ : ∃ z, ad[k]? = some z := ⟨_, List.getElem?_eq_getElem (by rw [← Hna.out]; exact hkn)⟩
          have hg : ad.getD k (0, Mr.nil) = (lv, ⟨⟨mz, mn, ka, kb, refs⟩, vr⟩) := by rw [List.getD_eq_getElem?_getD, hzk]; rfl
          have Hpk : Hid (plsOk ad (k + 1) = (plsOk ad k && (decide (0 ≤ lv) && decide (lv < 4) && metaOk mz mn ka kb refs))) := Lib.hid (by show (plsOk ad k && plOk (ad.getD k (0, Mr.nil))) = _; rw [hg]; rfl)
          have hrr := HA.out.2 _ (List.mem_of_getElem? hzk)
          have hrl := HR.out _ (List.mem_of_getElem? hzk)
          dsimp only at hrr hrl
          obtain ⟨ra, rcp, rfl, -, -, -⟩ := id hrr
          have hcx := fun j y hj => (Hbw.out.cell (block_lt_of_cell (hcell k _ hzk j y hj))).trans (hcell k _ hzk j y hj)
          have c0 := hcx 0 _ rfl
          have c1 := hcx 1 _ rfl
          have c2 := hcx 2 _ rfl
          have c3 := hcx 3 _ rfl
          have c4 := hcx 4 _ rfl
          have c5 := hcx 5 _ rfl
          have c6 := hcx 6 _ rfl
          have c7 := hcx 7 _ rfl
          have c8 := hcx 8 _ rfl
          have c9 := hcx 9 _ rfl
          rw [Nat.add_zero] at c0
          have hpb := (Below.refl wo.heap.size wo).alloc (Nat.le_refl _) (.cells (plC (lv, ⟨⟨mz, mn, ka, kb, refs⟩, .slice ra refs.length rcp⟩)).toArray 80)
          have Hpb := Lib.hid hpb
          have Hck := Lib.hid (lcheck_any mz mn ka kb (.slice ra refs.length rcp) refs _ (hrr.below ((Hbw.out.trans (hpb.mono Hbw.out.size)))) hrl)
          obtain ⟨rn, hrn⟩ : ∃ q, q = refs.length := ⟨_, rfl⟩
          rw [← hrn] at c9 Hck
          unfold metaV at Hck
          have Hrn := Lib.hid hrn
          clear hrn
          have Hbl := Lib.hid (blk_of_alloc wo (.cells (plC (lv, ⟨⟨mz, mn, ka, kb, refs⟩, .slice ra refs.length rcp⟩)).toArray 80))
          have Hbn := Lib.hid (Hbw.out.trans (hpb.mono Hbw.out.size))
          clear hzk hg hrr hrl hcx hpb hcell
          go_upto_region 13 with fail
          try simp only [Act.put, List.setIfInBounds_toArray, List.set_cons_zero, List.set_cons_succ]
          rw [← Hrn.out] at Hpb Hbl Hbn
          have e0 : wo.alloc (.cells (plC (lv, ⟨⟨mz, mn, ka, kb, refs⟩, .slice ra rn rcp⟩)).toArray 80) = wo.alloc (.cells #[.int .i64 lv, .int .i64 mz, .int .i64 mn, .string ka.u, .int .i64 ka.s, .int .i64 ka.k, .string kb.u, .int .i64 kb.s, .int .i64 kb.k, .slice ra rn rcp] 80) := rfl
          rw [e0] at Hck Hbl Hpb Hbn
          obtain ⟨pb, hpbq⟩ : ∃ q, q = wo.heap.size := ⟨_, rfl⟩
          rw [← hpbq] at Hbl ⊢
          clear hpbq Hpb e0 Hrn
          generalize wo.alloc (.cells #[.int .i64 lv, .int .i64 mz, .int .i64 mn, .string ka.u, .int .i64 ka.s, .int .i64 ka.k, .string kb.u, .int .i64 kb.s, .int .i64 kb.k, .slice ra rn rcp] 80) = Y at *
          have p0 : Y.cell? ⟨pb, 0, none⟩ = some (.int .i64 lv) := (cell_of_blk Hbl.out 0).trans rfl
          have p1 : Y.cell? ⟨pb, 1, none⟩ = some (.int .i64 mz) := (cell_of_blk Hbl.out 1).trans rfl
          have p2 : Y.cell? ⟨pb, 2, none⟩ = some (.int .i64 mn) := (cell_of_blk Hbl.out 2).trans rfl
          have p3 : Y.cell? ⟨pb, 3, none⟩ = some (.string ka.u) := (cell_of_blk Hbl.out 3).trans rfl
          have p4 : Y.cell? ⟨pb, 4, none⟩ = some (.int .i64 ka.s) := (cell_of_blk Hbl.out 4).trans rfl
          have p5 : Y.cell? ⟨pb, 5, none⟩ = some (.int .i64 ka.k) := (cell_of_blk Hbl.out 5).trans rfl
          have p6 : Y.cell? ⟨pb, 6, none⟩ = some (.string kb.u) := (cell_of_blk Hbl.out 6).trans rfl
          have p7 : Y.cell? ⟨pb, 7, none⟩ = some (.int .i64 kb.s) := (cell_of_blk Hbl.out 7).trans rfl
          have p8 : Y.cell? ⟨pb, 8, none⟩ = some (.int .i64 kb.k) := (cell_of_blk Hbl.out 8).trans rfl
          have p9 : Y.cell? ⟨pb, 9, none⟩ = some (.slice ra rn rcp) := (cell_of_blk Hbl.out 9).trans rfl
          obtain ⟨mo, hmo⟩ : ∃ q, q = metaOk mz mn ka kb refs := ⟨_, rfl⟩
          rw [← hmo] at Hck Hpk
          clear hmo
          cases hp : (H2 && plsOk ad k) with
          | false =>
            have Hn : Hid ((H2 && plsOk ad (k + 1)) = false) := Lib.hid (by rw [Hpk.out, ← Bool.and_assoc, hp]; rfl)
            clear hp
            go_wp2_with fail
            go_roundw
            case rel => exact ⟨k + 1, by omega, by go_num, by rw [Hn.out], Hbn.out⟩
            case measure => simp [intOf]; omega
          | true =>
            have Hn : Hid ((H2 && plsOk ad (k + 1)) = (decide (0 ≤ lv) && decide (lv < 4) && mo)) := Lib.hid (by rw [Hpk.out, ← Bool.and_assoc, hp]; rfl)
            clear hp
            by_cases h0 : 0 ≤ lv
            · by_cases h4 : lv < 4
              · have d1 : decide (lv ≥ 0) = true := decide_eq_true h0
                have d2 : decide (0 ≤ lv) = true := decide_eq_true h0
                have d3 : decide (lv < 4) = true := decide_eq_true h4
                cases mo with
                | true =>
                  have Hn2 : Hid ((H2 && plsOk ad (k + 1)) = true) := Lib.hid (by rw [Hn.out, d2, d3]; rfl)
                  have Hc : Hid (Calls Try.prog 37 #[.agg #[.int .i64 mz, .int .i64 mn, .string ka.u, .int .i64 ka.s, .int .i64 ka.k, .string kb.u, .int .i64 kb.s, .int .i64 kb.k, .slice ra rn rcp]] Y fun e w' => e = .returned (.int .i64 0) ∧ Below Y.heap.size Y w') := Hck
                  clear Hck
                  go_wp2_with fail
                  refine Hc.out.mono ?_
                  rintro e w5 ⟨rfl, hb5⟩
                  have HB5 := Lib.hid (Hbn.out.trans (hb5.mono Hbn.out.size))
                  clear hb5
                  go_wp2_with fail
                  go_roundw
                  case rel => exact ⟨k + 1, by omega, by go_num, by rw [Hn2.out], HB5.out⟩
                  case measure => simp [intOf]; omega
                | false =>
                  have Hn2 : Hid ((H2 && plsOk ad (k + 1)) = false) := Lib.hid (by rw [Hn.out, d2, d3]; rfl)
                  have Hc : Hid (Calls Try.prog 37 #[.agg #[.int .i64 mz, .int .i64 mn, .string ka.u, .int .i64 ka.s, .int .i64 ka.k, .string kb.u, .int .i64 kb.s, .int .i64 kb.k, .slice ra rn rcp]] Y fun e w' => e = .returned (.int .i64 150) ∧ Below Y.heap.size Y w') := Hck
                  clear Hck
                  go_wp2_with fail
                  refine Hc.out.mono ?_
                  rintro e w5 ⟨rfl, hb5⟩
                  have HB5 := Lib.hid (Hbn.out.trans (hb5.mono Hbn.out.size))
                  clear hb5
                  go_wp2_with fail
                  go_roundw
                  case rel => exact ⟨k + 1, by omega, by go_num, by rw [Hn2.out], HB5.out⟩
                  case measure => simp [intOf]; omega
              · have Hn2 : Hid ((H2 && plsOk ad (k + 1)) = false) := Lib.hid (by rw [Hn.out, decide_eq_false h4]; simp)
                have d1 : decide (lv ≥ 0) = true := decide_eq_true h0
                have d2 : decide (0 ≤ lv) = true := decide_eq_true h0
                have d3 : decide (lv < 4) = false := decide_eq_false h4
                go_wp2_with fail
                go_roundw
                case rel => exact ⟨k + 1, by omega, by go_num, by rw [Hn2.out], Hbn.out⟩
                case measure => simp [intOf]; omega
            · have Hn2 : Hid ((H2 && plsOk ad (k + 1)) = false) := Lib.hid (by rw [Hn.out, decide_eq_false h0]; simp)
              have d1 : decide (lv ≥ 0) = false := decide_eq_false (by omega)
              have d2 : decide (0 ≤ lv) = false := decide_eq_false h0
              go_wp2_with fail
              go_roundw
              case rel => exact ⟨k + 1, by omega, by go_num, by rw [Hn2.out], Hbn.out⟩
              case measure => simp [intOf]; omega
        · obtain rfl : k = na := by omega
          cases hf : (H2 && plsOk ad k) with
          | true =>
            have Hf : Hid (E = true) := Lib.hid (by rw [HE.out, hf])
            clear hf
            go_wp2_with fail
            go_ret
            exact ⟨by rw [HV.out, Hf.out]; rfl, Hbw.out⟩
          | false =>
            have Hf : Hid (E = false) := Lib.hid (by rw [HE.out, hf])
            clear hf
            go_wp2_with fail
            go_ret
            exact ⟨by rw [HV.out, Hf.out]; rfl, Hbw.out⟩
end Go.Proofs.Ythjjelomlgmllaa.Tithe
