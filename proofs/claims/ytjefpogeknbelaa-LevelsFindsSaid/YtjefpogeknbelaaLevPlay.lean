/- The law's play: walked. -/
import Derived.Test.YtjefpogeknbelaaLevPlayC
import Derived.Deep.RegionHeld3
namespace Go.Proofs.Ytjefpogeknbelaa.Tithe
open Go.RowKit Go.Sort Go.Shelf
set_option linter.unusedVariables false
set_option linter.unusedSimpArgs false
set_option maxRecDepth 100000
theorem take_psM {ps rows : List (Int × Mr)} {i : Nat} {p : Int × Mr} {v : Value} (hp : ps[i]? = some p) (h : psM rows = psM (ps.take i)) : psM (rows ++ [(p.1, (p.2.1, v))]) = psM (ps.take (i + 1)) := by
  rw [List.take_add_one, hp]
  unfold psM at *
  rw [List.map_append, List.map_append, h]; rfl
theorem psM_sm {ps rows : List (Int × Mr)} (h : psM rows = psM ps) (hs : ∀ p ∈ ps, mtSmall p.2.1) : ∀ p ∈ rows, mtSmall p.2.1 := by
  intro p hp
  have : (p.1, p.2.1) ∈ psM rows := List.mem_map.2 ⟨p, hp, rfl⟩
  rw [h] at this
  obtain ⟨q, hq, e⟩ := List.mem_map.1 this
  have := hs q hq
  have e2 : q.2.1 = p.2.1 := (Prod.mk.inj e).2
  rw [← e2]; exact this
theorem stepP_no {L : Lv} {e : Ed} (h : applyP L e.zs (psM e.ps) = none) : stepP L e = L := by unfold stepP; rw [h]
theorem stepP_yes {L L' : Lv} {e : Ed} (h : applyP L e.zs (psM e.ps) = some L') : stepP L e = L' := by unfold stepP; rw [h]
theorem isPl_bel {w W : World} {v : Value} {l : List (Int × Mr)} (h : IsPl w v l) (hb : Below w.heap.size w W) : IsPl W v l := ⟨h.1.below hb, fun r hr => (h.2 r hr).below hb⟩
theorem lvE_lv {U X : Vn} {L : Lv} (h : LvE (lvOf U.l) L) (h' : LvE (lvOf X.l) L) {n : Nat} (hn : n < 4) : (U.l n).map (·.1) = (X.l n).map (·.1) := (h n hn).trans (h' n hn).symm
attribute [local go_sem] Oper.semAt_some
set_option maxHeartbeats 6400000 in
theorem play_any (v : Value) (l : List Ed) (w : World) (h : IsEd w v l) (hs : smallB l = true) :
    Calls Try.prog 16 #[v] w fun e w' => Hid (PlOut w l e w') := by
  obtain ⟨aa, ac, rfl, -, -, -⟩ := id h.1
  obtain ⟨-, hac, ham, hax⟩ := h.1.at
  have Hax := Lib.hid hax
  have Hin := Lib.hid h.2
  have Hsm := Lib.hid (smallB_ed hs).1
  have hm40 := (smallB_ed hs).2
  have Hpl := Lib.hid (playP_ok hs)
  obtain ⟨m, hm⟩ : ∃ m, m = l.length := ⟨_, rfl⟩
  rw [← hm] at hac hm40 Hpl ⊢
  have Hm := Lib.hid hm
  clear h hax hm hs
  go_enter Try.func16, Try.ntmps16
  go_wp2_with fail
  have hI : PyI w Vn.none Vn.none (w.heap.size + 1 + 1) (playP l 0) (((w.alloc (.cells #[.slice none 0 0, .slice none 0 0, .slice none 0 0, .slice none 0 0] 48)).alloc (.cells #[.slice none 0 0, .slice none 0 0, .slice none 0 0, .slice none 0 0] 48)).alloc (.cells #[.slice none 0 0, .slice none 0 0, .slice none 0 0, .slice none 0 0] 61)) :=
    ⟨blk_old (blk_old (blk_of_alloc _ _) _) _, blk_old (blk_new (by simp only [World.size_alloc]) _) _, blk_new (by simp only [World.size_alloc]) _, (ownVn_none _ 0).isVn, (ownVn_none _ 0).isVn, LvE.refl _, LvE.refl _, Nat.le_refl _, (((Below.refl _ _).alloc (Nat.le_refl _) _).alloc (by simp) _).alloc (by simp; omega) _⟩
  generalize ((w.alloc (.cells #[.slice none 0 0, .slice none 0 0, .slice none 0 0, .slice none 0 0] 48)).alloc (.cells #[.slice none 0 0, .slice none 0 0, .slice none 0 0, .slice none 0 0] 48)).alloc (.cells #[.slice none 0 0, .slice none 0 0, .slice none 0 0, .slice none 0 0] 61) = W0 at *
  have HI := Lib.hid hI
  clear hI
  go_loopw [6, 21] (fun xv kv wr => ∃ k : Nat, k ≤ m ∧ kv = .int .i64 k ∧ ∃ (U X : Vn) (xb : Nat), xv = .pointer (some ⟨xb, 0, none⟩) ∧ PyI w U X xb (playP l k) wr) (fun _ kv _ => m - (intOf kv).toNat)
  case atStart => exact ⟨0, Nat.zero_le _, rfl, _, _, _, rfl, HI.out⟩
  case round =>
    obtain ⟨wo, rfl⟩ : ∃ wo : World, wo = wr := ⟨_, rfl⟩
    obtain ⟨k, hk, rfl, U, X, xb, rfl, hq⟩ := hrel
    have Hq := Lib.hid hq
    clear hq HI
    obtain ⟨a0, n0, c0, a1, n1, c1, a2, n2, c2, a3, n3, c3, e0, e1, e2, e3⟩ := isVn_sl Hq.out.vu
    by_cases hkm : k < m
    · obtain ⟨b, off, rfl, hcell⟩ := Hax.out (by rw [← Hm.out]; omega)
      obtain ⟨e, he⟩ : ∃ e, l[k]? = some e := ⟨_, List.getElem?_eq_getElem (by rw [← Hm.out]; exact hkm)⟩
      obtain ⟨d0, d1⟩ := isEd_row hcell Hq.out.bel he
      obtain ⟨hpl, hdz⟩ := Hin.out e (List.mem_of_getElem? he)
      have Hes := Lib.hid (Hsm.out e (List.mem_of_getElem? he))
      have Hsucc := Lib.hid (playP_succ he)
      obtain ⟨va, vd, ps, zs⟩ := e
      dsimp only at d0 d1 hpl hdz
      obtain ⟨pa, pc, rfl, -, -, -⟩ := id hpl.1
      obtain ⟨za, zc, rfl, -, -, -⟩ := id hdz
      obtain ⟨-, hpc, hpm, hpx⟩ := hpl.1.at
      have Hpx := Lib.hid hpx
      have Hrr := Lib.hid hpl.2
      have Hplw := Lib.hid hpl
      have Hdzw := Lib.hid hdz
      have hps10 := (edSmall_ps Hes.out).1
      have Hpsm := Lib.hid (edSmall_ps Hes.out).2.2
      dsimp only at hps10 Hpsm
      obtain ⟨np, hnp⟩ : ∃ np, np = ps.length := ⟨_, rfl⟩
      obtain ⟨nz, hnz⟩ : ∃ nz, nz = zs.length := ⟨_, rfl⟩
      rw [← hnp] at d0 hpc hps10 Hplw
      rw [← hnz] at d1 Hdzw
      have Hnp := Lib.hid hnp
      have Hnz := Lib.hid hnz
      have HqE := Lib.hid (Hq.out.below ((Below.refl _ _).alloc (Nat.le_refl _) (.cells #[.slice pa np pc, .slice za nz zc] 43)))
      have HE := Lib.hid (blk_of_alloc wo (.cells #[.slice pa np pc, .slice za nz zc] 43))
      have he0 := (cell_of_blk HE.out 0).trans (show _ = some (.slice pa np pc) from rfl)
      obtain ⟨eb, heb⟩ : ∃ eb, eb = wo.heap.size := ⟨_, rfl⟩
      rw [← heb] at HE he0
      have Heb := Lib.hid heb
      have E0 := Lib.hid e0
      have E1 := Lib.hid e1
      have E2 := Lib.hid e2
      have E3 := Lib.hid e3
      clear hcell he hpl hdz hpx hnp hnz heb e0 e1 e2 e3
      go_wp2_with fail
      rw [← Heb.out]
      generalize wo.alloc (.cells #[.slice pa np pc, .slice za nz zc] 43) = We at *
      clear d0 d1 he0
      go_loopw [9, 28] (fun av iv wr => ∃ i : Nat, i ≤ np ∧ iv = .int .i64 i ∧ ∃ xa xc rows, av = .slice xa i xc ∧ OwnPs wr We.heap.size (.slice xa i xc) rows ∧ psM rows = psM (ps.take i) ∧ Below We.heap.size We wr) (fun _ iv _ => np - (intOf iv).toNat)
      case atStart => exact ⟨0, Nat.zero_le _, rfl, none, 0, [], rfl, OwnPs.nil _ _, rfl, Below.refl _ _⟩
      case round =>
        obtain ⟨wq, rfl⟩ : ∃ wq : World, wq = wr := ⟨_, rfl⟩
        obtain ⟨i, hi, rfl, xa, xc, rows, rfl, hown, hrows, hb⟩ := hrel
        have Hown := Lib.hid hown
        have Hrows := Lib.hid hrows
        have Hb := Lib.hid hb
        have HqQ := Lib.hid (HqE.out.below hb)
        have hsz := hb.size
        clear hown hrows hb
        by_cases hin : i < np
        · obtain ⟨b3, off3, rfl, hcell3⟩ := Hpx.out (by rw [← Hnp.out]; omega)
          obtain ⟨p, hp⟩ : ∃ p, ps[i]? = some p := ⟨_, List.getElem?_eq_getElem (by rw [← Hnp.out]; exact hin)⟩
          obtain ⟨f0, f1, f2, f3, f4, f5, f6, f7, f8, f9⟩ := IsPl.row (w := wq) (fun i x hi y z hz => (HqQ.out.bel.cell (block_lt_of_cell (hcell3 i x hi y z hz))).trans (hcell3 i x hi y z hz)) hp
          have hrp := Hrr.out p (List.mem_of_getElem? hp)
          have hpls := Hpsm.out p (List.mem_of_getElem? hp)
          have Hp := Lib.hid hp
          obtain ⟨lv, ⟨⟨mz, mn, a, b2, refs⟩, vr⟩⟩ := p
          dsimp only at f0 f1 f2 f3 f4 f5 f6 f7 f8 f9 hrp hpls
          obtain ⟨ra, rc, hrv, -, -, -⟩ := id hrp
          obtain ⟨rn, hrn⟩ : ∃ rn, rn = refs.length := ⟨_, rfl⟩
          rw [← hrn] at hrv
          subst hrv
          have Hbp := Lib.hid ((Below.refl wq.heap.size wq).alloc (Nat.le_refl _) (.cells #[.int .i64 lv, .int .i64 mz, .int .i64 mn, .string a.u, .int .i64 a.s, .int .i64 a.k, .string b2.u, .int .i64 b2.s, .int .i64 b2.k, .slice ra rn rc] 78))
          have HP := Lib.hid (blk_of_alloc wq (.cells #[.int .i64 lv, .int .i64 mz, .int .i64 mn, .string a.u, .int .i64 a.s, .int .i64 a.k, .string b2.u, .int .i64 b2.s, .int .i64 b2.k, .slice ra rn rc] 78))
          have HqP := Lib.hid (HqQ.out.below Hbp.out)
          have HbP := Lib.hid (Hb.out.trans (Hbp.out.mono hsz))
          have HownP := Lib.hid (Hown.out.below Hbp.out)
          obtain ⟨pb, hpb⟩ : ∃ pb, pb = wq.heap.size := ⟨_, rfl⟩
          rw [← hpb] at HP
          have Hpb := Lib.hid hpb
          have Href := Lib.hid (fun (W2 : World) (hW : Below (wq.alloc (.cells #[.int .i64 lv, .int .i64 mz, .int .i64 mn, .string a.u, .int .i64 a.s, .int .i64 a.k, .string b2.u, .int .i64 b2.s, .int .i64 b2.k, .slice ra rn rc] 78)).heap.size (wq.alloc (.cells #[.int .i64 lv, .int .i64 mz, .int .i64 mn, .string a.u, .int .i64 a.s, .int .i64 a.k, .string b2.u, .int .i64 b2.s, .int .i64 b2.k, .slice ra rn rc] 78)) W2) => ref_any mz mn a b2 (.slice ra rn rc) refs W2 ((hrp.below HqP.out.bel).below hW) (mtSmall_refs hpls))
          unfold metaV at Href
          clear hcell3 hp hrp hrn hpb hpls
          have Hplen := Lib.hid (HownP.out.len)
          go_wp2_with fail
          rw [← Hpb.out]
          clear f0 f1 f2 f3 f4 f5 f6 f7 f8 f9
          generalize wq.alloc (.cells #[.int .i64 lv, .int .i64 mz, .int .i64 mn, .string a.u, .int .i64 a.s, .int .i64 a.k, .string b2.u, .int .i64 b2.s, .int .i64 b2.k, .slice ra rn rc] 78) = Wp at *
          have K0 := Lib.hid ((Below.refl Wp.heap.size Wp).drew)
          have hS0 := blk_bels K0.out HP.out
          refine wp_region_held_drew (S := fun V => V.heap[pb]? = some (.cells #[.int .i64 lv, .int .i64 mz, .int .i64 mn, .string a.u, .int .i64 a.s, .int .i64 a.k, .string b2.u, .int .i64 b2.s, .int .i64 b2.k, .slice ra rn rc] 78 (0, 0))) (by kernel_rfl) hS0 (fun hS0 => ?_)
          refine wpAnyH_take (i := 0) (oi := { dst := some 32, op := Op.move (Operand.tmp 9), type := 87, pos := "law.go:89", after := #[], guard := none }) (v := ?_) rfl (by kernel_rfl) (by kernel_rfl) (by kernel_rfl) (fun _ _ _ h => h) (Or.inl ⟨by rfl, ?hy1⟩) hS0 ?_
          case hy1 => (intro V hSw; (try dsimp only at hSw); have hcw := fun j => cell_of_blk hSw j; clear hSw; go_simp; try with_reducible rfl)
          try simp only [Act.put, List.setIfInBounds_toArray, List.set_cons_zero, List.set_cons_succ]
          refine wpAnyH_take (i := 1) (oi := { dst := some 33, op := Op.fieldAddr 78 (Operand.tmp 11) 0, type := 0, pos := "law.go:89", after := #[], guard := none }) (v := ?_) rfl (by kernel_rfl) (by kernel_rfl) (by kernel_rfl) (fun _ _ _ h => h) (Or.inl ⟨by rfl, ?hy2⟩) hS0 ?_
          case hy2 => (intro V hSw; (try dsimp only at hSw); have hcw := fun j => cell_of_blk hSw j; clear hSw; go_simp; try with_reducible rfl)
          try simp only [Act.put, List.setIfInBounds_toArray, List.set_cons_zero, List.set_cons_succ]
          refine wpAnyH_take (i := 2) (oi := { dst := some 34, op := Op.load 3 (Operand.tmp 33), type := 3, pos := "law.go:89", after := #[{ on := 1, ground := Ground.data }], guard := none }) (v := ?_) rfl (by kernel_rfl) (by kernel_rfl) (by kernel_rfl) (fun _ _ _ h => h) (Or.inl ⟨by rfl, ?hy3⟩) hS0 ?_
          case hy3 => (intro V hSw; (try dsimp only at hSw); have hcw := fun j => cell_of_blk hSw j; clear hSw; go_simp; try with_reducible rfl)
          try simp only [Act.put, List.setIfInBounds_toArray, List.set_cons_zero, List.set_cons_succ]
          refine wpAnyH_take (i := 3) (oi := { dst := some 35, op := Op.fieldAddr 78 (Operand.tmp 11) 1, type := 0, pos := "law.go:89", after := #[], guard := none }) (v := ?_) rfl (by kernel_rfl) (by kernel_rfl) (by kernel_rfl) (fun _ _ _ h => h) (Or.inl ⟨by rfl, ?hy4⟩) hS0 ?_
          case hy4 => (intro V hSw; (try dsimp only at hSw); have hcw := fun j => cell_of_blk hSw j; clear hSw; go_simp; try with_reducible rfl)
          try simp only [Act.put, List.setIfInBounds_toArray, List.set_cons_zero, List.set_cons_succ]
          refine wpAnyH_take (i := 4) (oi := { dst := some 36, op := Op.load 26 (Operand.tmp 35), type := 26, pos := "law.go:89", after := #[{ on := 3, ground := Ground.data }], guard := none }) (v := ?_) rfl (by kernel_rfl) (by kernel_rfl) (by kernel_rfl) (fun _ _ _ h => h) (Or.inl ⟨by rfl, ?hy5⟩) hS0 ?_
          case hy5 => (intro V hSw; (try dsimp only at hSw); have hcw := fun j => cell_of_blk hSw j; clear hSw; go_simp; try with_reducible rfl)
          try simp only [Act.put, List.setIfInBounds_toArray, List.set_cons_zero, List.set_cons_succ]
          refine wpAnyH_ready (rs := [5]) (by kernel_rfl) (by simp) (AllReadyH.cons rfl (fun K hK => ?_) AllReadyH.nil)
          go_simp
          refine (Href.out _ K0.out).mono ?_
          rintro e w3 ⟨v3, rfl, ho3, hv3⟩
          obtain ⟨ya, yc, rfl⟩ := own_slice ho3
          have hS1 := blk_bels hv3 hS0
          have hb03 := K0.out.trans (hv3.mono K0.out.size)
          obtain ⟨qa, qc, w5, hrun, hown5, hg5⟩ := push_ps w3 We.heap.size xa i xc rows (lv, (⟨mz, mn, a, b2, refs⟩, .slice ya refs.length yc)) (HownP.out.below hb03) (own_mono ho3 (Nat.le_trans HbP.out.size K0.out.size)) (by omega) (Nat.le_trans HbP.out.size hb03.size) [.int .i64 lv, .int .i64 mz, .int .i64 mn, .string a.u, .int .i64 a.s, .int .i64 a.k, .string b2.u, .int .i64 b2.s, .int .i64 b2.k, .slice ya refs.length yc] rfl
          have Hb5 := Lib.hid (push_bel (HbP.out.trans (hb03.mono HbP.out.size)) (HownP.out.below hb03).1 hg5 (Nat.le_refl _) (Nat.le_trans HbP.out.size hb03.size))
          have Hown5 := Lib.hid hown5
          have hS3 := push_other (HownP.out.below hb03).1 hg5 hS1 (by decide)
          have hS2 := blk_old hS1 (.cells #[.int .i64 lv, .int .i64 mz, .int .i64 mn, .string a.u, .int .i64 a.s, .int .i64 a.k, .string b2.u, .int .i64 b2.s, .int .i64 b2.k, .slice ya refs.length yc] 89)
          clear ho3 hv3 hown5 hg5 hb03
          refine hK.out _ _ hS1 (fun _ => ?_)
          clear hK K
          try simp only [Act.put, List.setIfInBounds_toArray, List.set_cons_zero, List.set_cons_succ]
          refine wpAnyH_take (i := 6) (oi := { dst := some 38, op := Op.build 89 #[(0, Operand.tmp 34), (1, Operand.tmp 37)], type := 89, pos := "law.go:89", after := #[{ on := 2, ground := Ground.data }, { on := 5, ground := Ground.data }], guard := none }) (v := ?_) rfl (by kernel_rfl) (by kernel_rfl) (by kernel_rfl) (fun _ _ _ h => h) (Or.inl ⟨by rfl, ?hy6⟩) hS1 ?_
          case hy6 => (intro V hSw; (try dsimp only at hSw); have hcw := fun j => cell_of_blk hSw j; clear hSw; go_simp; try with_reducible rfl)
          try simp only [Act.put, List.setIfInBounds_toArray, List.set_cons_zero, List.set_cons_succ]
          refine wpAnyH_ready (rs := [7]) (by kernel_rfl) (by simp) (AllReadyH.cons rfl (fun K hK => ?_) AllReadyH.nil)
          go_simp
          refine hK.out _ _ hS2 (fun _ => ?_)
          clear hK K
          try simp only [Act.put, List.setIfInBounds_toArray, List.set_cons_zero, List.set_cons_succ]
          refine wpAnyH_ready (rs := [8]) (by kernel_rfl) (by simp) (AllReadyH.cons rfl (fun K hK => ?_) AllReadyH.nil)
          refine wp_append_run (.tmp 32) (.tmp 39) 87 rfl _ _ _ _ rfl rfl hrun ?_
          refine hK.out _ _ hS3 (fun _ => ?_)
          clear hK K
          try simp only [Act.put, List.setIfInBounds_toArray, List.set_cons_zero, List.set_cons_succ]
          refine wpAnyH_ready (rs := [9]) (by kernel_rfl) (by simp) (AllReadyH.cons rfl (fun K hK => ?_) AllReadyH.nil)
          go_simp
          refine hK.out _ _ hS3 (fun _ => ?_)
          clear hK K
          try simp only [Act.put, List.setIfInBounds_toArray, List.set_cons_zero, List.set_cons_succ]
          refine wpAnyH_done (by kernel_rfl) ?_ _
          have Hpm5 := Lib.hid (take_psM (v := .slice ya refs.length yc) Hp.out Hrows.out)
          go_wp2_with fail
          go_roundw
          case rel => exact ⟨i + 1, by omega, by go_num, qa, qc, _, rfl, Hown5.out, Hpm5.out, Hb5.out⟩
          case measure => simp [intOf]; omega
        · obtain rfl : i = np := by omega
          have hrws := Hrows.out
          rw [Hnp.out, List.take_length] at hrws
          have Hpm := Lib.hid hrws
          have HplQ := Lib.hid (isPl_bel Hplw.out HqQ.out.bel)
          have HdzQ := Lib.hid (Hdzw.out.below HqQ.out.bel)
          have HPl := Lib.hid (Hpl.out k (by omega))
          have HLs := Lib.hid (HPl.out.1.mono (show 10 * k ≤ 2000 by omega))
          have hrl10 : rows.length ≤ 1000 := by have := congrArg List.length hrws; rw [psM_len, psM_len, ← Hnp.out] at this; omega
          have hpl10 : ps.length ≤ 1000 := by rw [← Hnp.out]; omega
          have Hrl10 := Lib.hid hrl10
          have Hrsm := Lib.hid (psM_sm hrws Hpsm.out)
          have cv := fun j => cell_of_blk HqQ.out.cv j
          have c0' := (cv 0).trans (show _ = some (.slice a0 n0 c0) from (vn_cell U (by omega)).trans (by rw [E0.out]))
          have c1' := (cv 1).trans (show _ = some (.slice a1 n1 c1) from (vn_cell U (by omega)).trans (by rw [E1.out]))
          have c2' := (cv 2).trans (show _ = some (.slice a2 n2 c2) from (vn_cell U (by omega)).trans (by rw [E2.out]))
          have c3' := (cv 3).trans (show _ = some (.slice a3 n3 c3) from (vn_cell U (by omega)).trans (by rw [E3.out]))
          have HEq := Lib.hid (blk_bels Hb.out HE.out)
          have g0 := (cell_of_blk HEq.out 0).trans (show _ = some (.slice pa i pc) from rfl)
          have g1 := (cell_of_blk HEq.out 1).trans (show _ = some (.slice za nz zc) from rfl)
          have hUc : U.cells = #[.slice a0 n0 c0, .slice a1 n1 c1, .slice a2 n2 c2, .slice a3 n3 c3] := by unfold Vn.cells; rw [E0.out, E1.out, E2.out, E3.out]
          have HUc := Lib.hid hUc
          clear hrws cv hUc
          cases ha : applyP (playP l k) zs (psM ps) with
          | none =>
            have Ha := Lib.hid ha
            have hv := vapply_no HqQ.out.vu HqQ.out.eu HLs.out HPl.out.2 HplQ.out HdzQ.out hpl10 Hpsm.out ha
            rw [HUc.out] at hv
            have Hv := Lib.hid hv
            have Hstep := Lib.hid (Hsucc.out.trans (stepP_no ha))
            clear ha hv
            go_wp2_with fail
            refine Hv.out.mono ?_
            rintro e w2 ⟨rfl, hb2⟩
            clear Hv c0' c1' c2' c3' g0 g1
            have hb3 : Below w2.heap.size w2 (w2.alloc (.cells Vn.none.cells 48)) := (Below.refl _ _).alloc (Nat.le_refl _) _
            have hbA := hb2.trans (hb3.mono hb2.size)
            have HqR := Lib.hid (HqQ.out.below hbA)
            have HN := Lib.hid (blk_of_alloc w2 (.cells Vn.none.cells 48))
            have g1 := (cell_of_blk (blk_bels hbA HEq.out) 1).trans (show _ = some (.slice za nz zc) from rfl)
            have hr := rapply_no HqR.out.cx HqR.out.vx HqR.out.ex HLs.out ((Hown.out.below hbA).is) (HdzQ.out.below hbA) Hrl10.out Hrsm.out (by rw [Hpm.out]; exact Ha.out)
            have Hr := Lib.hid hr
            unfold Vn.none Vn.cells at g1 HqR HN Hr
            dsimp only at g1 HqR HN Hr
            have Hplw2 : w2.heap.size < (w2.alloc (.cells #[.slice none 0 0, .slice none 0 0, .slice none 0 0, .slice none 0 0] 48)).heap.size := blk_lt (blk_of_alloc _ _)
            unfold Vn.none Vn.cells
            dsimp only
            clear hb2 hb3 hbA hr
            go_wp2_with fail
            refine Hr.out.mono ?_
            rintro e w3 ⟨rfl, hb4⟩
            have HqS := Lib.hid (HqR.out.below hb4)
            have hN3 := blk_bels hb4 HN.out
            have z0 := (cell_of_blk hN3 0).trans (show _ = some (.slice none 0 0) from rfl)
            have z1 := (cell_of_blk hN3 1).trans (show _ = some (.slice none 0 0) from rfl)
            have z2 := (cell_of_blk hN3 2).trans (show _ = some (.slice none 0 0) from rfl)
            have z3 := (cell_of_blk hN3 3).trans (show _ = some (.slice none 0 0) from rfl)
            have Ht := Lib.hid (tables_none w3)
            unfold Vn.none Vn.cells at Ht
            dsimp only at Ht
            clear Hr hb4 hN3 g1
            go_wp2_with fail
            refine Ht.out.mono ?_
            rintro e w4 ⟨ta, tc, rfl, hb5⟩
            have HqT := Lib.hid (HqS.out.below hb5)
            clear Ht hb5 z0 z1 z2 z3
            go_wp2_with fail
            have HeqN := Lib.hid HqT.out.eu
            go_loopw [79] (fun nv wr => ∃ n : Nat, n ≤ 4 ∧ nv = .int .i64 n ∧ Below w4.heap.size w4 wr) (fun nv _ => 4 - (intOf nv).toNat)
            case atStart => exact ⟨0, Nat.zero_le _, rfl, Below.refl _ _⟩
            case round =>
              obtain ⟨wz, rfl⟩ : ∃ wz : World, wz = wr := ⟨_, rfl⟩
              obtain ⟨n, hn, rfl, hb6⟩ := hrel
              have HqZb := Lib.hid hb6
              have HqZ := Lib.hid (HqT.out.below hb6)
              clear hb6
              by_cases hn4 : n < 4
              · have hni : (n : Int) < 4 := by omega
                obtain ⟨sa, sc, hsu⟩ := isMr_slice (HqZ.out.vu n hn4)
                obtain ⟨ta, tc, hsx⟩ := isMr_slice (HqZ.out.vx n hn4)
                have hcu := (cell_of_blk HqZ.out.cv n).trans ((vn_cell U hn4).trans (by rw [hsu]))
                have hcx := (cell_of_blk HqZ.out.cx n).trans ((vn_cell X hn4).trans (by rw [hsx]))
                have Hsame := Lib.hid (same_yes (U.v n) (X.v n) (U.l n) (X.l n) wz.drew ((HqZ.out.vu n hn4).below ((Below.refl _ _).drew)) ((HqZ.out.vx n hn4).below ((Below.refl _ _).drew)) (lvE_lv HqZ.out.eu HqZ.out.ex hn4))
                rw [hsu, hsx] at Hsame
                clear hsu hsx
                go_wp2_with fail
                have hS0 : wz.drew.cell? ⟨w.heap.size + 1, n, none⟩ = some (.slice sa (U.l n).length sc) ∧ wz.drew.cell? ⟨xb, n, none⟩ = some (.slice ta (X.l n).length tc) := ⟨hcu, hcx⟩
                refine wp_region_held_drew (S := fun A => A.cell? ⟨w.heap.size + 1, n, none⟩ = some (.slice sa (U.l n).length sc) ∧ A.cell? ⟨xb, n, none⟩ = some (.slice ta (X.l n).length tc)) (by kernel_rfl) hS0 (fun hS0 => ?_)
                clear hcu hcx
                refine wpAnyH_take (i := 0) (oi := { dst := some 82, op := Op.move (Operand.tmp 16), type := 3, pos := "law.go:100", after := #[], guard := none }) (v := ?_) rfl (by kernel_rfl) (by kernel_rfl) (by kernel_rfl) (fun _ _ _ h => h) (Or.inl ⟨by rfl, ?hy7⟩) hS0 ?_
                case hy7 => (intro V hSw; (try dsimp only at hSw); have hsw1 := hSw.1; have hsw2 := hSw.2; clear hSw; go_simp; try with_reducible rfl)
                try simp only [Act.put, List.setIfInBounds_toArray, List.set_cons_zero, List.set_cons_succ]
                refine wpAnyH_take (i := 1) (oi := { dst := some 83, op := Op.fieldAddr 48 (Operand.tmp 5) 0, type := 0, pos := "law.go:100", after := #[], guard := none }) (v := ?_) rfl (by kernel_rfl) (by kernel_rfl) (by kernel_rfl) (fun _ _ _ h => h) (Or.inl ⟨by rfl, ?hy8⟩) hS0 ?_
                case hy8 => (intro V hSw; (try dsimp only at hSw); have hsw1 := hSw.1; have hsw2 := hSw.2; clear hSw; go_simp; try with_reducible rfl)
                try simp only [Act.put, List.setIfInBounds_toArray, List.set_cons_zero, List.set_cons_succ]
                refine wpAnyH_take (i := 2) (oi := { dst := some 84, op := Op.indexAddr 46 (Operand.tmp 83) (Operand.tmp 82), type := 0, pos := "law.go:100", after := #[{ on := 1, ground := Ground.data }, { on := 0, ground := Ground.data }], guard := none }) (v := ?_) rfl (by kernel_rfl) (by kernel_rfl) (by kernel_rfl) (fun _ _ _ h => h) (Or.inl ⟨by rfl, ?hy9⟩) hS0 ?_
                case hy9 => (intro V hSw; (try dsimp only at hSw); have hsw1 := hSw.1; have hsw2 := hSw.2; clear hSw; go_simp; try with_reducible rfl)
                try simp only [Act.put, List.setIfInBounds_toArray, List.set_cons_zero, List.set_cons_succ]
                refine wpAnyH_take (i := 3) (oi := { dst := some 85, op := Op.load 45 (Operand.tmp 84), type := 45, pos := "law.go:100", after := #[{ on := 2, ground := Ground.data }], guard := none }) (v := ?_) rfl (by kernel_rfl) (by kernel_rfl) (by kernel_rfl) (fun _ _ _ h => h) (Or.inl ⟨by rfl, ?hy10⟩) hS0 ?_
                case hy10 => (intro V hSw; (try dsimp only at hSw); have hsw1 := hSw.1; have hsw2 := hSw.2; clear hSw; go_simp; try with_reducible rfl)
                try simp only [Act.put, List.setIfInBounds_toArray, List.set_cons_zero, List.set_cons_succ]
                refine wpAnyH_take (i := 4) (oi := { dst := some 86, op := Op.move (Operand.tmp 6), type := 49, pos := "law.go:100", after := #[], guard := none }) (v := ?_) rfl (by kernel_rfl) (by kernel_rfl) (by kernel_rfl) (fun _ _ _ h => h) (Or.inl ⟨by rfl, ?hy11⟩) hS0 ?_
                case hy11 => (intro V hSw; (try dsimp only at hSw); have hsw1 := hSw.1; have hsw2 := hSw.2; clear hSw; go_simp; try with_reducible rfl)
                try simp only [Act.put, List.setIfInBounds_toArray, List.set_cons_zero, List.set_cons_succ]
                refine wpAnyH_take (i := 5) (oi := { dst := some 87, op := Op.move (Operand.tmp 16), type := 3, pos := "law.go:100", after := #[], guard := none }) (v := ?_) rfl (by kernel_rfl) (by kernel_rfl) (by kernel_rfl) (fun _ _ _ h => h) (Or.inl ⟨by rfl, ?hy12⟩) hS0 ?_
                case hy12 => (intro V hSw; (try dsimp only at hSw); have hsw1 := hSw.1; have hsw2 := hSw.2; clear hSw; go_simp; try with_reducible rfl)
                try simp only [Act.put, List.setIfInBounds_toArray, List.set_cons_zero, List.set_cons_succ]
                refine wpAnyH_take (i := 6) (oi := { dst := some 88, op := Op.nilCheck (Operand.tmp 86), type := 0, pos := "law.go:100", after := #[{ on := 4, ground := Ground.data }], guard := none }) (v := ?_) rfl (by kernel_rfl) (by kernel_rfl) (by kernel_rfl) (fun _ _ _ h => h) (Or.inl ⟨by rfl, ?hy13⟩) hS0 ?_
                case hy13 => (intro V hSw; (try dsimp only at hSw); have hsw1 := hSw.1; have hsw2 := hSw.2; clear hSw; go_simp; try with_reducible rfl)
                try simp only [Act.put, List.setIfInBounds_toArray, List.set_cons_zero, List.set_cons_succ]
                refine wpAnyH_take (i := 7) (oi := { dst := some 89, op := Op.fieldAddr 61 (Operand.tmp 88) 0, type := 0, pos := "law.go:100", after := #[{ on := 6, ground := Ground.data }], guard := none }) (v := ?_) rfl (by kernel_rfl) (by kernel_rfl) (by kernel_rfl) (fun _ _ _ h => h) (Or.inl ⟨by rfl, ?hy14⟩) hS0 ?_
                case hy14 => (intro V hSw; (try dsimp only at hSw); have hsw1 := hSw.1; have hsw2 := hSw.2; clear hSw; go_simp; try with_reducible rfl)
                try simp only [Act.put, List.setIfInBounds_toArray, List.set_cons_zero, List.set_cons_succ]
                refine wpAnyH_take (i := 8) (oi := { dst := some 90, op := Op.indexAddr 59 (Operand.tmp 89) (Operand.tmp 87), type := 0, pos := "law.go:100", after := #[{ on := 7, ground := Ground.data }, { on := 5, ground := Ground.data }], guard := none }) (v := ?_) rfl (by kernel_rfl) (by kernel_rfl) (by kernel_rfl) (fun _ _ _ h => h) (Or.inl ⟨by rfl, ?hy15⟩) hS0 ?_
                case hy15 => (intro V hSw; (try dsimp only at hSw); have hsw1 := hSw.1; have hsw2 := hSw.2; clear hSw; go_simp; try with_reducible rfl)
                try simp only [Act.put, List.setIfInBounds_toArray, List.set_cons_zero, List.set_cons_succ]
                refine wpAnyH_take (i := 9) (oi := { dst := some 91, op := Op.load 58 (Operand.tmp 90), type := 58, pos := "law.go:100", after := #[{ on := 8, ground := Ground.data }], guard := none }) (v := ?_) rfl (by kernel_rfl) (by kernel_rfl) (by kernel_rfl) (fun _ _ _ h => h) (Or.inl ⟨by rfl, ?hy16⟩) hS0 ?_
                case hy16 => (intro V hSw; (try dsimp only at hSw); have hsw1 := hSw.1; have hsw2 := hSw.2; clear hSw; go_simp; try with_reducible rfl)
                try simp only [Act.put, List.setIfInBounds_toArray, List.set_cons_zero, List.set_cons_succ]
                refine wpAnyH_ready (rs := [10]) (by kernel_rfl) (by simp) (AllReadyH.cons rfl (fun K hK => ?_) AllReadyH.nil)
                go_simp
                refine Hsame.out.mono ?_
                rintro e w5 ⟨rfl, hv5⟩
                have hS1 := grow_cell hv5 (block_lt_of_cell hS0.1) hS0.1
                have hS2 := grow_cell hv5 (block_lt_of_cell hS0.2) hS0.2
                refine hK.out _ _ ⟨hS1, hS2⟩ (fun _ => ?_)
                clear hK K
                try simp only [Act.put, List.setIfInBounds_toArray, List.set_cons_zero, List.set_cons_succ]
                refine wpAnyH_take (i := 11) (oi := { dst := some 93, op := Op.unOp UnOp.not 4 (Operand.tmp 92), type := 4, pos := "law.go:100", after := #[{ on := 10, ground := Ground.data }], guard := none }) (v := ?_) rfl (by kernel_rfl) (by kernel_rfl) (by kernel_rfl) (fun _ _ _ h => h) (Or.inl ⟨by rfl, ?hy17⟩) ⟨hS1, hS2⟩ ?_
                case hy17 => (intro V hSw; (try dsimp only at hSw); have hsw1 := hSw.1; have hsw2 := hSw.2; clear hSw; go_simp; try with_reducible rfl)
                try simp only [Act.put, List.setIfInBounds_toArray, List.set_cons_zero, List.set_cons_succ]
                refine wpAnyH_done (by kernel_rfl) ?_ _
                have Hb7 := Lib.hid (HqZb.out.trans ((((Below.refl wz.heap.size wz).drew).trans hv5).mono HqZb.out.size))
                clear hS1 hS2 hv5
                go_wp2_with fail
                go_roundw
                case rel => exact ⟨n + 1, by omega, by go_num, Hb7.out⟩
                case measure => simp [intOf]; omega
              · obtain rfl : n = 4 := by omega
                go_wp2_with fail
                go_roundw
                case rel => exact ⟨k + 1, by omega, by go_num, U, X, xb, rfl, by rw [Hstep.out]; exact HqZ.out⟩
                case measure => simp [intOf]; omega
          | some L' =>
            have Ha := Lib.hid ha
            have hv := vapply_yes HqQ.out.vu HqQ.out.eu HLs.out HPl.out.2 HplQ.out HdzQ.out hpl10 Hpsm.out ha
            rw [HUc.out] at hv
            have Hv := Lib.hid hv
            have Hstep := Lib.hid (Hsucc.out.trans (stepP_yes ha))
            clear ha hv
            go_wp2_with fail
            refine Hv.out.mono ?_
            rintro e w2 ⟨V, rfl, hVo, hVe, hb2⟩
            clear Hv c0' c1' c2' c3' g0 g1
            obtain ⟨x0, k0, y0, x1, k1, y1, x2, k2, y2, x3, k3, y3, e0, e1, e2, e3⟩ := vn_slices hVo
            have hVc : V.cells = #[.slice x0 k0 y0, .slice x1 k1 y1, .slice x2 k2 y2, .slice x3 k3 y3] := by unfold Vn.cells; rw [e0, e1, e2, e3]
            rw [hVc]
            have hb3 : Below w2.heap.size w2 (w2.alloc (.cells #[.slice x0 k0 y0, .slice x1 k1 y1, .slice x2 k2 y2, .slice x3 k3 y3] 48)) := (Below.refl _ _).alloc (Nat.le_refl _) _
            have hbA := hb2.trans (hb3.mono hb2.size)
            have HqR := Lib.hid (HqQ.out.below hbA)
            have HN := Lib.hid (blk_of_alloc w2 (.cells #[.slice x0 k0 y0, .slice x1 k1 y1, .slice x2 k2 y2, .slice x3 k3 y3] 48))
            have g1 := (cell_of_blk (blk_bels hbA HEq.out) 1).trans (show _ = some (.slice za nz zc) from rfl)
            have hr := rapply_yes HqR.out.cx HqR.out.vx HqR.out.ex HLs.out ((Hown.out.below hbA).is) (HdzQ.out.below hbA) Hrl10.out Hrsm.out (by rw [Hpm.out]; exact Ha.out)
            have Hr := Lib.hid hr
            have HVi := Lib.hid ((hVo.isVn).below hb3)
            have HVe := Lib.hid hVe
            have E4 := Lib.hid e0
            have E5 := Lib.hid e1
            have E6 := Lib.hid e2
            have E7 := Lib.hid e3
            clear hb2 hb3 hbA hr hVo hVe hVc e0 e1 e2 e3
            go_wp2_with fail
            refine Hr.out.mono ?_
            rintro e w3 ⟨Y, yb, rfl, hyb, hYi, hYe, hys, hb4⟩
            have HqS := Lib.hid (HqR.out.below hb4)
            have hN3 := blk_bels hb4 HN.out
            have z0 := (cell_of_blk hN3 0).trans (show _ = some (.slice x0 k0 y0) from rfl)
            have z1 := (cell_of_blk hN3 1).trans (show _ = some (.slice x1 k1 y1) from rfl)
            have z2 := (cell_of_blk hN3 2).trans (show _ = some (.slice x2 k2 y2) from rfl)
            have z3 := (cell_of_blk hN3 3).trans (show _ = some (.slice x3 k3 y3) from rfl)
            have v0 := (cell_of_blk HqS.out.cv 0).trans (vn_cell U (by omega))
            have v1 := (cell_of_blk HqS.out.cv 1).trans (vn_cell U (by omega))
            have v2 := (cell_of_blk HqS.out.cv 2).trans (vn_cell U (by omega))
            have v3 := (cell_of_blk HqS.out.cv 3).trans (vn_cell U (by omega))
            have r0 := frozen_of_blk HqS.out.cv 0
            have r1 := frozen_of_blk HqS.out.cv 1
            have r2 := frozen_of_blk HqS.out.cv 2
            have r3 := frozen_of_blk HqS.out.cv 3
            have hxs := HqR.out.hx
            have hlt := blk_lt HqR.out.cx
            have HqT := HqS.out.next (HVi.out.below hb4) hYi hyb HVe.out hYe (by omega)
            rw [E4.out, E5.out, E6.out, E7.out] at HqT
            have HqT := Lib.hid HqT
            clear Hr hb4 hN3 g1 hyb hYi hYe hys hxs hlt
            go_wp2_with fail
            clear z0 z1 z2 z3 v0 v1 v2 v3 r0 r1 r2 r3
            generalize (((w3.setCell ⟨w.heap.size + 1, 0, none⟩ (.slice x0 k0 y0)).setCell ⟨w.heap.size + 1, 1, none⟩ (.slice x1 k1 y1)).setCell ⟨w.heap.size + 1, 2, none⟩ (.slice x2 k2 y2)).setCell ⟨w.heap.size + 1, 3, none⟩ (.slice x3 k3 y3) = w4 at *
            have HeqN := Lib.hid HqT.out.eu
            go_loopw [79] (fun nv wr => ∃ n : Nat, n ≤ 4 ∧ nv = .int .i64 n ∧ Below w4.heap.size w4 wr) (fun nv _ => 4 - (intOf nv).toNat)
            case atStart => exact ⟨0, Nat.zero_le _, rfl, Below.refl _ _⟩
            case round =>
              obtain ⟨wz, rfl⟩ : ∃ wz : World, wz = wr := ⟨_, rfl⟩
              obtain ⟨n, hn, rfl, hb6⟩ := hrel
              have HqZb := Lib.hid hb6
              have HqZ := Lib.hid (HqT.out.below hb6)
              clear hb6
              by_cases hn4 : n < 4
              · have hni : (n : Int) < 4 := by omega
                obtain ⟨sa, sc, hsu⟩ := isMr_slice (HqZ.out.vu n hn4)
                obtain ⟨ta, tc, hsx⟩ := isMr_slice (HqZ.out.vx n hn4)
                have hcu := (cell_of_blk HqZ.out.cv n).trans ((vn_cell V hn4).trans (by rw [hsu]))
                have hcx := (cell_of_blk HqZ.out.cx n).trans ((vn_cell Y hn4).trans (by rw [hsx]))
                have Hsame := Lib.hid (same_yes (V.v n) (Y.v n) (V.l n) (Y.l n) wz.drew ((HqZ.out.vu n hn4).below ((Below.refl _ _).drew)) ((HqZ.out.vx n hn4).below ((Below.refl _ _).drew)) (lvE_lv HqZ.out.eu HqZ.out.ex hn4))
                rw [hsu, hsx] at Hsame
                clear hsu hsx
                go_wp2_with fail
                have hS0 : wz.drew.cell? ⟨w.heap.size + 1, n, none⟩ = some (.slice sa (V.l n).length sc) ∧ wz.drew.cell? ⟨yb, n, none⟩ = some (.slice ta (Y.l n).length tc) := ⟨hcu, hcx⟩
                refine wp_region_held_drew (S := fun A => A.cell? ⟨w.heap.size + 1, n, none⟩ = some (.slice sa (V.l n).length sc) ∧ A.cell? ⟨yb, n, none⟩ = some (.slice ta (Y.l n).length tc)) (by kernel_rfl) hS0 (fun hS0 => ?_)
                clear hcu hcx
                refine wpAnyH_take (i := 0) (oi := { dst := some 82, op := Op.move (Operand.tmp 16), type := 3, pos := "law.go:100", after := #[], guard := none }) (v := ?_) rfl (by kernel_rfl) (by kernel_rfl) (by kernel_rfl) (fun _ _ _ h => h) (Or.inl ⟨by rfl, ?hy18⟩) hS0 ?_
                case hy18 => (intro V hSw; (try dsimp only at hSw); have hsw1 := hSw.1; have hsw2 := hSw.2; clear hSw; go_simp; try with_reducible rfl)
                try simp only [Act.put, List.setIfInBounds_toArray, List.set_cons_zero, List.set_cons_succ]
                refine wpAnyH_take (i := 1) (oi := { dst := some 83, op := Op.fieldAddr 48 (Operand.tmp 5) 0, type := 0, pos := "law.go:100", after := #[], guard := none }) (v := ?_) rfl (by kernel_rfl) (by kernel_rfl) (by kernel_rfl) (fun _ _ _ h => h) (Or.inl ⟨by rfl, ?hy19⟩) hS0 ?_
                case hy19 => (intro V hSw; (try dsimp only at hSw); have hsw1 := hSw.1; have hsw2 := hSw.2; clear hSw; go_simp; try with_reducible rfl)
                try simp only [Act.put, List.setIfInBounds_toArray, List.set_cons_zero, List.set_cons_succ]
                refine wpAnyH_take (i := 2) (oi := { dst := some 84, op := Op.indexAddr 46 (Operand.tmp 83) (Operand.tmp 82), type := 0, pos := "law.go:100", after := #[{ on := 1, ground := Ground.data }, { on := 0, ground := Ground.data }], guard := none }) (v := ?_) rfl (by kernel_rfl) (by kernel_rfl) (by kernel_rfl) (fun _ _ _ h => h) (Or.inl ⟨by rfl, ?hy20⟩) hS0 ?_
                case hy20 => (intro V hSw; (try dsimp only at hSw); have hsw1 := hSw.1; have hsw2 := hSw.2; clear hSw; go_simp; try with_reducible rfl)
                try simp only [Act.put, List.setIfInBounds_toArray, List.set_cons_zero, List.set_cons_succ]
                refine wpAnyH_take (i := 3) (oi := { dst := some 85, op := Op.load 45 (Operand.tmp 84), type := 45, pos := "law.go:100", after := #[{ on := 2, ground := Ground.data }], guard := none }) (v := ?_) rfl (by kernel_rfl) (by kernel_rfl) (by kernel_rfl) (fun _ _ _ h => h) (Or.inl ⟨by rfl, ?hy21⟩) hS0 ?_
                case hy21 => (intro V hSw; (try dsimp only at hSw); have hsw1 := hSw.1; have hsw2 := hSw.2; clear hSw; go_simp; try with_reducible rfl)
                try simp only [Act.put, List.setIfInBounds_toArray, List.set_cons_zero, List.set_cons_succ]
                refine wpAnyH_take (i := 4) (oi := { dst := some 86, op := Op.move (Operand.tmp 6), type := 49, pos := "law.go:100", after := #[], guard := none }) (v := ?_) rfl (by kernel_rfl) (by kernel_rfl) (by kernel_rfl) (fun _ _ _ h => h) (Or.inl ⟨by rfl, ?hy22⟩) hS0 ?_
                case hy22 => (intro V hSw; (try dsimp only at hSw); have hsw1 := hSw.1; have hsw2 := hSw.2; clear hSw; go_simp; try with_reducible rfl)
                try simp only [Act.put, List.setIfInBounds_toArray, List.set_cons_zero, List.set_cons_succ]
                refine wpAnyH_take (i := 5) (oi := { dst := some 87, op := Op.move (Operand.tmp 16), type := 3, pos := "law.go:100", after := #[], guard := none }) (v := ?_) rfl (by kernel_rfl) (by kernel_rfl) (by kernel_rfl) (fun _ _ _ h => h) (Or.inl ⟨by rfl, ?hy23⟩) hS0 ?_
                case hy23 => (intro V hSw; (try dsimp only at hSw); have hsw1 := hSw.1; have hsw2 := hSw.2; clear hSw; go_simp; try with_reducible rfl)
                try simp only [Act.put, List.setIfInBounds_toArray, List.set_cons_zero, List.set_cons_succ]
                refine wpAnyH_take (i := 6) (oi := { dst := some 88, op := Op.nilCheck (Operand.tmp 86), type := 0, pos := "law.go:100", after := #[{ on := 4, ground := Ground.data }], guard := none }) (v := ?_) rfl (by kernel_rfl) (by kernel_rfl) (by kernel_rfl) (fun _ _ _ h => h) (Or.inl ⟨by rfl, ?hy24⟩) hS0 ?_
                case hy24 => (intro V hSw; (try dsimp only at hSw); have hsw1 := hSw.1; have hsw2 := hSw.2; clear hSw; go_simp; try with_reducible rfl)
                try simp only [Act.put, List.setIfInBounds_toArray, List.set_cons_zero, List.set_cons_succ]
                refine wpAnyH_take (i := 7) (oi := { dst := some 89, op := Op.fieldAddr 61 (Operand.tmp 88) 0, type := 0, pos := "law.go:100", after := #[{ on := 6, ground := Ground.data }], guard := none }) (v := ?_) rfl (by kernel_rfl) (by kernel_rfl) (by kernel_rfl) (fun _ _ _ h => h) (Or.inl ⟨by rfl, ?hy25⟩) hS0 ?_
                case hy25 => (intro V hSw; (try dsimp only at hSw); have hsw1 := hSw.1; have hsw2 := hSw.2; clear hSw; go_simp; try with_reducible rfl)
                try simp only [Act.put, List.setIfInBounds_toArray, List.set_cons_zero, List.set_cons_succ]
                refine wpAnyH_take (i := 8) (oi := { dst := some 90, op := Op.indexAddr 59 (Operand.tmp 89) (Operand.tmp 87), type := 0, pos := "law.go:100", after := #[{ on := 7, ground := Ground.data }, { on := 5, ground := Ground.data }], guard := none }) (v := ?_) rfl (by kernel_rfl) (by kernel_rfl) (by kernel_rfl) (fun _ _ _ h => h) (Or.inl ⟨by rfl, ?hy26⟩) hS0 ?_
                case hy26 => (intro V hSw; (try dsimp only at hSw); have hsw1 := hSw.1; have hsw2 := hSw.2; clear hSw; go_simp; try with_reducible rfl)
                try simp only [Act.put, List.setIfInBounds_toArray, List.set_cons_zero, List.set_cons_succ]
                refine wpAnyH_take (i := 9) (oi := { dst := some 91, op := Op.load 58 (Operand.tmp 90), type := 58, pos := "law.go:100", after := #[{ on := 8, ground := Ground.data }], guard := none }) (v := ?_) rfl (by kernel_rfl) (by kernel_rfl) (by kernel_rfl) (fun _ _ _ h => h) (Or.inl ⟨by rfl, ?hy27⟩) hS0 ?_
                case hy27 => (intro V hSw; (try dsimp only at hSw); have hsw1 := hSw.1; have hsw2 := hSw.2; clear hSw; go_simp; try with_reducible rfl)
                try simp only [Act.put, List.setIfInBounds_toArray, List.set_cons_zero, List.set_cons_succ]
                refine wpAnyH_ready (rs := [10]) (by kernel_rfl) (by simp) (AllReadyH.cons rfl (fun K hK => ?_) AllReadyH.nil)
                go_simp
                refine Hsame.out.mono ?_
                rintro e w5 ⟨rfl, hv5⟩
                have hS1 := grow_cell hv5 (block_lt_of_cell hS0.1) hS0.1
                have hS2 := grow_cell hv5 (block_lt_of_cell hS0.2) hS0.2
                refine hK.out _ _ ⟨hS1, hS2⟩ (fun _ => ?_)
                clear hK K
                try simp only [Act.put, List.setIfInBounds_toArray, List.set_cons_zero, List.set_cons_succ]
                refine wpAnyH_take (i := 11) (oi := { dst := some 93, op := Op.unOp UnOp.not 4 (Operand.tmp 92), type := 4, pos := "law.go:100", after := #[{ on := 10, ground := Ground.data }], guard := none }) (v := ?_) rfl (by kernel_rfl) (by kernel_rfl) (by kernel_rfl) (fun _ _ _ h => h) (Or.inl ⟨by rfl, ?hy28⟩) ⟨hS1, hS2⟩ ?_
                case hy28 => (intro V hSw; (try dsimp only at hSw); have hsw1 := hSw.1; have hsw2 := hSw.2; clear hSw; go_simp; try with_reducible rfl)
                try simp only [Act.put, List.setIfInBounds_toArray, List.set_cons_zero, List.set_cons_succ]
                refine wpAnyH_done (by kernel_rfl) ?_ _
                have Hb7 := Lib.hid (HqZb.out.trans ((((Below.refl wz.heap.size wz).drew).trans hv5).mono HqZb.out.size))
                clear hS1 hS2 hv5
                go_wp2_with fail
                go_roundw
                case rel => exact ⟨n + 1, by omega, by go_num, Hb7.out⟩
                case measure => simp [intOf]; omega
              · obtain rfl : n = 4 := by omega
                go_wp2_with fail
                go_roundw
                case rel => exact ⟨k + 1, by omega, by go_num, V, Y, yb, rfl, by rw [Hstep.out]; exact HqZ.out⟩
                case measure => simp [intOf]; omega
    · obtain rfl : k = m := by omega
      have cv := fun j => cell_of_blk Hq.out.cv j
      have c0' := (cv 0).trans (show _ = some (.slice a0 n0 c0) from (vn_cell U (by omega)).trans (by rw [e0]))
      have c1' := (cv 1).trans (show _ = some (.slice a1 n1 c1) from (vn_cell U (by omega)).trans (by rw [e1]))
      have c2' := (cv 2).trans (show _ = some (.slice a2 n2 c2) from (vn_cell U (by omega)).trans (by rw [e2]))
      have c3' := (cv 3).trans (show _ = some (.slice a3 n3 c3) from (vn_cell U (by omega)).trans (by rw [e3]))
      have v0 := (cell_of_blk Hq.out.res 0).trans (show _ = some (.slice none 0 0) from rfl)
      have v1 := (cell_of_blk Hq.out.res 1).trans (show _ = some (.slice none 0 0) from rfl)
      have v2 := (cell_of_blk Hq.out.res 2).trans (show _ = some (.slice none 0 0) from rfl)
      have v3 := (cell_of_blk Hq.out.res 3).trans (show _ = some (.slice none 0 0) from rfl)
      have r0 := frozen_of_blk Hq.out.res 0
      have r1 := frozen_of_blk Hq.out.res 1
      have r2 := frozen_of_blk Hq.out.res 2
      have r3 := frozen_of_blk Hq.out.res 3
      have hF := Hq.out.final
      rw [e0, e1, e2, e3] at hF
      have HF := Lib.hid hF
      have hP0 := hF.1
      clear hF cv e0 e1 e2 e3
      go_wp2_with fail
      refine bodyPost_ret (results_row_slot3 Try.results16 _ _ w.heap.size 48 _ (0, 0) _ _ _ rfl rfl rfl hP0 Try.underlying48 rfl vnInfo) rfl ?_
      exact Lib.hid (HF.out.2 (by rw [← Hm.out]))
end Go.Proofs.Ytjefpogeknbelaa.Tithe
