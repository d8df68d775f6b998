/- fill: a model with writes, and the document's: walked. -/
import Derived.Test.YtbnodgoccmhjkaaFlatNew
namespace Go.Proofs.Ytbnodgoccmhjkaa.Tithe
open Go.RowKit Go.Sort Go.Shelf
set_option linter.unusedVariables false
set_option linter.unusedSimpArgs false
set_option maxRecDepth 100000
def opsOf (rows : List Wr) : List (List Bo) := rows.map (·.2)
def sumN (ws : List (List Bo)) : Nat := (ws.map List.length).sum
/-- which writes are taken -/
def fillL (most : Int) (acc : List (List Bo)) (l : List Bo) : List (List Bo) := if chkM most (sumN acc : Nat) l = 0 then acc ++ [l] else acc
def fillT (most : Int) (L : List (List Bo)) : List (List Bo) := L.foldl (fillL most) []
theorem lastN_ops (rows : List Wr) : lastN rows = sumN (opsOf rows) := by
  unfold lastN sumN opsOf
  rw [List.map_map]; rfl
theorem opsOf_len (rows : List Wr) : (opsOf rows).length = rows.length := by unfold opsOf; rw [List.length_map]
theorem opsOf_snoc (rows : List Wr) (r : Wr) : opsOf (rows ++ [r]) = opsOf rows ++ [r.2] := by unfold opsOf; rw [List.map_append]; rfl
theorem fillT_snoc (most : Int) (L : List (List Bo)) (l : List Bo) : fillT most (L ++ [l]) = fillL most (fillT most L) l := by
  unfold fillT; rw [List.foldl_append]; rfl
theorem opsOf_take {rows : List Wr} {k : Nat} {r : Wr} (h : rows[k]? = some r) : opsOf (rows.take (k + 1)) = opsOf (rows.take k) ++ [r.2] := by
  rw [List.take_add_one, h]; exact opsOf_snoc _ _
/-- what fill leaves -/
structure FillD (W0 W : World) (B mb xb : Nat) (most : Int) (sm im : Nat) (rm rx : List Wr) : Prop where
  mo : IsMo W B mb most rm sm im 0
  xo : IsXo W B xb most rx
  eq : opsOf rx = opsOf rm
  bel : Below W0.heap.size W0 W
attribute [local go_sem] Oper.semAt_some
set_option maxHeartbeats 6400000 in
theorem fill_any (most : Int) (v : Value) (rows : List Wr) (w : World) (h : IsWs w v rows) (hl : rows.length ≤ 20) (hsm : ∀ r ∈ rows, r.2.length ≤ 70 ∧ ∀ x ∈ r.2, x.u.size ≤ 200 ∧ x.v.size ≤ 500) :
    Calls Try.prog 9 #[.int .i64 most, v] w fun e w' => Hid (∃ (mb xb B : Nat) (rm rx : List Wr), e = .returned (.tuple #[.pointer (some ⟨mb, 0, none⟩), .pointer (some ⟨xb, 0, none⟩), .bool true]) ∧ FillD w w' B mb xb most w.heap.size (w.heap.size + 1) rm rx ∧ opsOf rm = fillT most (opsOf rows) ∧ w'.heap[w.heap.size]? = some (.map #[] 0) ∧ w'.heap[w.heap.size + 1]? = some (.map #[] 0) ∧ w.heap.size + 2 = mb) := by
  obtain ⟨hsl, hrr⟩ := h
  obtain ⟨a, c, rfl, -, -, -⟩ := id hsl
  obtain ⟨-, hc, hm, hx⟩ := hsl.at
  obtain ⟨n, hn⟩ : ∃ n, n = rows.length := ⟨_, rfl⟩
  rw [← hn] at hc hx hl ⊢
  have Hx := Lib.hid hx
  have Hn := Lib.hid hn
  have Hrr := Lib.hid hrr
  have Hsm := Lib.hid hsm
  have Hnew := Lib.hid (mnew_any most w)
  clear hsl hx hn hrr hsm
  go_enter Try.func9, Try.ntmps9
  go_wp2_with fail
  refine Hnew.out.mono ?_
  rintro e w1 ⟨rfl, hM, hS, hI, hb1, hs1⟩
  obtain ⟨w0s, hw0s⟩ : ∃ q, q = w.heap.size := ⟨_, rfl⟩
  obtain ⟨mb, hmb⟩ : ∃ q, q = w.heap.size + 2 := ⟨_, rfl⟩
  obtain ⟨xb, hxb⟩ : ∃ q, q = w1.heap.size := ⟨_, rfl⟩
  have HM := Lib.hid hM
  have HS := Lib.hid hS
  have HI := Lib.hid hI
  have Hb1 := Lib.hid hb1
  have hxm : mb < xb := by omega
  have HXb := Lib.hid (blk_of_alloc w1 (.cells #[.slice none 0 0, .int .i64 most] 36))
  have HMx := Lib.hid (blk_old hM (.cells #[.slice none 0 0, .int .i64 most] 36))
  have HSx := Lib.hid (blk_old hS (.cells #[.slice none 0 0, .int .i64 most] 36))
  have HIx := Lib.hid (blk_old hI (.cells #[.slice none 0 0, .int .i64 most] 36))
  have Hbx := Lib.hid (hb1.alloc hb1.size (.cells #[.slice none 0 0, .int .i64 most] 36))
  have hsz : (w1.alloc (.cells #[.slice none 0 0, .int .i64 most] 36)).heap.size = xb + 1 := by rw [World.size_alloc, hxb]
  have Hmb := Lib.hid hmb
  have Hxb := Lib.hid hxb
  rw [← hmb] at HMx
  rw [← hxb] at HXb
  have hwm : w.heap.size ≤ mb := by omega
  have Hwm := Lib.hid hwm
  clear hM hS hI hb1 hs1 hmb hxb hwm HM HS HI Hb1 hw0s
  go_upto_region 3 with fail
  rw [← Hmb.out, ← Hxb.out]
  generalize w1.alloc (.cells #[.slice none 0 0, .int .i64 most] 36) = W1 at *
  have hD0 : FillD w W1 (xb + 1) mb xb most w.heap.size (w.heap.size + 1) [] [] := ⟨⟨⟨none, 0, HMx.out, OwnRs.nil _ _ _ _⟩, by omega, by omega⟩, ⟨⟨none, 0, HXb.out, OwnRs.nil _ _ _ _⟩, by omega, by omega⟩, rfl, Hbx.out⟩
  have HD0 := Lib.hid hD0
  have hsm0 : w.heap.size < mb := by have := Hmb.out; omega
  have Hms := Lib.hid (And.intro HSx.out HIx.out)
  clear hD0 hsz HMx HXb HSx HIx Hbx Hxb
  go_wp2_with fail
  go_loopw [21] (fun iv wr => ∃ k : Nat, k ≤ n ∧ iv = .int .i64 k ∧ ∃ rm rx, FillD w wr (xb + 1) mb xb most w.heap.size (w.heap.size + 1) rm rx ∧ opsOf rm = fillT most (opsOf (rows.take k)) ∧ rm.length ≤ k ∧ lastN rm ≤ 70 * k ∧ wr.heap[w.heap.size]? = some (.map #[] 0) ∧ wr.heap[w.heap.size + 1]? = some (.map #[] 0)) (fun iv _ => n - (intOf iv).toNat)
  case atStart => exact ⟨0, Nat.zero_le _, rfl, [], [], HD0.out, rfl, Nat.le_refl _, Nat.le_refl _, Hms.out.1, Hms.out.2⟩
  case round =>
    clear HD0 Hms
    obtain ⟨wo, rfl⟩ : ∃ wo : World, wo = wr := ⟨_, rfl⟩
    obtain ⟨k, hk, rfl, rm, rx, hD, hrm, hrl, hll, hms1, hms2⟩ := hrel
    have HD := Lib.hid hD
    have Hrm := Lib.hid hrm
    have Hms1 := Lib.hid hms1
    have Hms2 := Lib.hid hms2
    clear hD hrm hms1 hms2
    by_cases hkn : k < n
    · obtain ⟨be, off, rfl, hcell⟩ := Hx.out (by omega)
      obtain ⟨r, hrk⟩ : ∃ r, rows[k]? = some r := ⟨_, List.getElem?_eq_getElem (by rw [← Hn.out]; exact hkn)⟩
      have d0 : wo.cell? ⟨be, off + k, none⟩ = some r.1 := by
        have := hcell k r hrk 0 _ rfl
        rw [Nat.mul_one, Nat.add_zero] at this
        exact (HD.out.bel.cell (block_lt_of_cell this)).trans this
      have hmem := List.mem_of_getElem? hrk
      obtain ⟨hs70, hsx⟩ := Hsm.out r hmem
      have hro := Hrr.out r hmem
      have htk := opsOf_take hrk
      have Htk := Lib.hid htk
      obtain ⟨rv, l⟩ := r
      dsimp only at d0 hs70 hsx hro
      obtain ⟨ra, rc, rfl, -, -, -⟩ := id hro
      have Hro := Lib.hid (fun (A : World) (hA : Below w.heap.size w A) => hro.below hA)
      have Hsx := Lib.hid hsx
      obtain ⟨ls, hls⟩ : ∃ q, q = lastN rm := ⟨_, rfl⟩
      have hlx : lastN rx = ls := by rw [hls, lastN_ops, lastN_ops, HD.out.eq]
      have hrx : rx.length = rm.length := by rw [← opsOf_len, HD.out.eq, opsOf_len]
      have Hls := Lib.hid hls
      have Hlx := Lib.hid hlx
      have Hrx := Lib.hid hrx
      obtain ⟨m, hm2⟩ : ∃ q, q = l.length := ⟨_, rfl⟩
      rw [← hm2] at d0 Hro hs70
      have Hm2 := Lib.hid hm2
      have hk20 : k < 20 := by omega
      rw [← hls] at hll
      clear hcell hrk hmem htk hro hsx hls hlx hrx hm2
      have Rf := Lib.hid (refo_any (.slice ra m rc) l wo (Hro.out wo HD.out.bel) (by rw [← Hm2.out]; omega))
      go_wp2_with fail
      refine Rf.out.mono ?_
      rintro e w2 ⟨vr, rfl, hor, hb2⟩
      obtain ⟨xa, xc, hXB, hXO⟩ := HD.out.xo.ex
      have hrck := rcheck_any xb _ most rx vr l w2 (blk_bels hb2 hXB) (hXO.isWs.below hb2) (by rw [Hlx.out]; omega) (isSl_own bo_len hor) Hsx.out
      rw [Hlx.out] at hrck
      have Rck := Lib.hid hrck
      have HD2 := Lib.hid (show FillD w w2 (xb + 1) mb xb most w.heap.size (w.heap.size + 1) rm rx from ⟨HD.out.mo.bel hb2, HD.out.xo.bel hb2, HD.out.eq, HD.out.bel.trans (hb2.mono HD.out.bel.size)⟩)
      have Hms1b := Lib.hid (blk_bels hb2 Hms1.out)
      have Hms2b := Lib.hid (blk_bels hb2 Hms2.out)
      obtain ⟨e0, he0⟩ : ∃ q, q = chkM most (ls : Int) l := ⟨_, rfl⟩
      rw [← he0] at Rck
      have He0 := Lib.hid he0
      rw [OwnRo, ← Hm2.out] at hor
      obtain ⟨ara, arc, rfl⟩ := own_slice hor
      clear hor hb2 hXB hXO hrck he0 Rf d0 HD Hms1 Hms2
      go_wp2_with fail
      refine Rck.out.mono ?_
      rintro e w3 ⟨rfl, hb3⟩
      have HD3 := Lib.hid (show FillD w w3 (xb + 1) mb xb most w.heap.size (w.heap.size + 1) rm rx from ⟨HD2.out.mo.bel hb3, HD2.out.xo.bel hb3, HD2.out.eq, HD2.out.bel.trans (hb3.mono HD2.out.bel.size)⟩)
      have Hms1 := Lib.hid (blk_bels hb3 Hms1b.out)
      have Hms2 := Lib.hid (blk_bels hb3 Hms2b.out)
      obtain ⟨ma, mc, hMB, hMO⟩ := HD3.out.mo.ex
      have hmck := mcheck_any mb most (lastN rm : Nat) _ w.heap.size (w.heap.size + 1) 0 (.slice ra m rc) l w3 hMB (by omega) (by have := Hls.out; omega) (Hro.out w3 HD3.out.bel) Hsx.out
      rw [← Hls.out, ← He0.out] at hmck
      have Mck := Lib.hid hmck
      clear hb3 hMB hMO hmck HD2 Hms1b Hms2b Rck
      go_wp2_with fail
      refine Mck.out.mono ?_
      rintro e w4 ⟨rfl, hb4⟩
      have HD4 := Lib.hid (show FillD w w4 (xb + 1) mb xb most w.heap.size (w.heap.size + 1) rm rx from ⟨HD3.out.mo.bel hb4, HD3.out.xo.bel hb4, HD3.out.eq, HD3.out.bel.trans (hb4.mono HD3.out.bel.size)⟩)
      have Hms1b := Lib.hid (blk_bels hb4 Hms1.out)
      have Hms2b := Lib.hid (blk_bels hb4 Hms2.out)
      have hwr := mwrite_any w4 (xb + 1) mb most rm w.heap.size (w.heap.size + 1) 0 (.slice ra m rc) l HD4.out.mo (Hro.out w4 HD4.out.bel) Hsx.out (by rw [← Hm2.out]; omega) (by omega) (by rw [← Hls.out]; omega)
      rw [← Hls.out, ← He0.out] at hwr
      have Mwr := Lib.hid hwr
      clear hb4 hwr HD3 Hms1 Hms2 Mck
      have hee : (e0 == e0) = true := beq_self_eq_true e0
      go_wp2_with fail
      refine Mwr.out.mono ?_
      rintro e w5 hq
      obtain ⟨rfl, hz, hnz, hb5, hk5⟩ := hq.out
      have Hb5 := Lib.hid (HD4.out.bel.trans (hb5.mono Hwm.out))
      have HX5 := Lib.hid (HD4.out.xo.keep hk5 hb5.size)
      have Hms1 := Lib.hid (hk5 _ _ Hms1b.out (fun cs fr e => by cases e) (fun cs fr e => by cases e))
      have Hms2 := Lib.hid (hk5 _ _ Hms2b.out (fun cs fr e => by cases e) (fun cs fr e => by cases e))
      have Heq := Lib.hid HD4.out.eq
      clear hq hb5 hk5 Mwr HD4 Hms1b Hms2b
      by_cases hz0 : e0 = 0
      · subst hz0
        obtain ⟨val, hMo⟩ := hz rfl
        have HMo := Lib.hid hMo
        clear hz hnz hMo
        obtain ⟨qxa, qxc, hXB, hXO⟩ := HX5.out.ex
        obtain ⟨RX, hRX⟩ : ∃ q, q = rx.length := ⟨_, rfl⟩
        rw [← hRX] at hXB hXO
        have HRX := Lib.hid hRX
        have HXB := Lib.hid hXB
        have HXO := Lib.hid hXO
        have hbs := HX5.out.le
        have hxsz : xb ≤ w5.heap.size := by omega
        have hwx : w.heap.size < xb := by omega
        have m2 := (cell_of_blk hXB 0).trans (show _ = some (.slice qxa RX qxc) from rfl)
        have HRf := Lib.hid (fun (A : World) (hA : Below w5.heap.size w5 A) => refo_any (.slice ra m rc) l A (Hro.out A (Hb5.out.trans (hA.mono Hb5.out.size))) (by rw [← Hm2.out]; omega))
        clear hRX hXB hXO
        go_upto_region 12 with fail
        refine wp_region_held_drew (S := fun V' => Hid (Below xb w5 V')) (by kernel_rfl) (Lib.hid ((Below.refl _ _).drew)) (fun hS0 => ?_)
        have hL0 : Hid (Below w5.heap.size w5 w5.drew) := Lib.hid ((Below.refl _ _).drew)
        refine wpAnyH_take (i := 0) (oi := { dst := some 43, op := Op.move (Operand.tmp 8), type := 26, pos := "law.go:59", after := #[], guard := none }) (v := ?_) rfl (by kernel_rfl) (by kernel_rfl) (by kernel_rfl) (fun _ _ _ h => h) (Or.inl ⟨by rfl, ?hy16⟩) hS0 ?_
        case hy16 => (intro V hSw; (try dsimp only at hSw); clear hSw; go_simp; try with_reducible rfl)
        try simp only [Act.put, List.setIfInBounds_toArray, List.set_cons_zero, List.set_cons_succ]
        refine wpAnyH_take (i := 1) (oi := { dst := some 44, op := Op.move (Operand.tmp 8), type := 26, pos := "law.go:59", after := #[], guard := none }) (v := ?_) rfl (by kernel_rfl) (by kernel_rfl) (by kernel_rfl) (fun _ _ _ h => h) (Or.inl ⟨by rfl, ?hy17⟩) hS0 ?_
        case hy17 => (intro V hSw; (try dsimp only at hSw); clear hSw; go_simp; try with_reducible rfl)
        try simp only [Act.put, List.setIfInBounds_toArray, List.set_cons_zero, List.set_cons_succ]
        refine wpAnyH_take (i := 2) (oi := { dst := some 45, op := Op.nilCheck (Operand.tmp 44), type := 0, pos := "law.go:59", after := #[{ on := 1, ground := Ground.data }], guard := none }) (v := ?_) rfl (by kernel_rfl) (by kernel_rfl) (by kernel_rfl) (fun _ _ _ h => h) (Or.inl ⟨by rfl, ?hy18⟩) hS0 ?_
        case hy18 => (intro V hSw; (try dsimp only at hSw); clear hSw; go_simp; try with_reducible rfl)
        try simp only [Act.put, List.setIfInBounds_toArray, List.set_cons_zero, List.set_cons_succ]
        refine wpAnyH_take (i := 3) (oi := { dst := some 46, op := Op.fieldAddr 36 (Operand.tmp 45) 0, type := 0, pos := "law.go:59", after := #[{ on := 2, ground := Ground.data }], guard := none }) (v := ?_) rfl (by kernel_rfl) (by kernel_rfl) (by kernel_rfl) (fun _ _ _ h => h) (Or.inl ⟨by rfl, ?hy19⟩) hS0 ?_
        case hy19 => (intro V hSw; (try dsimp only at hSw); clear hSw; go_simp; try with_reducible rfl)
        try simp only [Act.put, List.setIfInBounds_toArray, List.set_cons_zero, List.set_cons_succ]
        refine wpAnyH_take (i := 5) (oi := { dst := some 48, op := Op.move (Operand.tmp 10), type := 37, pos := "law.go:59", after := #[], guard := none }) (v := ?_) rfl (by kernel_rfl) (by kernel_rfl) (by kernel_rfl) (fun _ _ _ h => h) (Or.inl ⟨by rfl, ?hy20⟩) hS0 ?_
        case hy20 => (intro V hSw; (try dsimp only at hSw); clear hSw; go_simp; try with_reducible rfl)
        try simp only [Act.put, List.setIfInBounds_toArray, List.set_cons_zero, List.set_cons_succ]
        refine wpAnyH_ready (rs := [4, 6]) (by kernel_rfl) (by simp) (AllReadyH.cons rfl (fun K hK => ?_) (AllReadyH.cons rfl (fun K hK => ?_) AllReadyH.nil))
        · have ml21 := m2
          go_simp
          clear ml21
          refine hK.out _ _ hS0 (fun _ => ?_)
          clear hK K
          try simp only [Act.put, List.setIfInBounds_toArray, List.set_cons_zero, List.set_cons_succ]
          refine wpAnyH_ready (rs := [6]) (by kernel_rfl) (by simp) (AllReadyH.cons rfl (fun K hK => ?_) AllReadyH.nil)
          go_simp
          refine (HRf.out _ hL0.out).mono ?_
          rintro e wv22 ⟨vc22, rfl, hown22, hv22⟩
          have hL22 := Lib.hid (hL0.out.trans (hv22.mono hL0.out.size))
          have hS22 := Lib.hid (hL22.out.mono hxsz)
          rw [OwnRo, ← Hm2.out] at hown22
          obtain ⟨ca22, cc22, rfl⟩ := own_slice hown22
          have HC := Lib.hid (own_mono hown22 (Nat.le_trans hbs hL0.out.size))
          have cm22 := (cell_of_blk (blk_bels hL22.out HXB.out) 0).trans (show _ = some (.slice qxa RX qxc) from rfl)
          clear hv22 hown22
          refine hK.out _ _ hS22 (fun _ => ?_)
          clear hK K
          try simp only [Act.put, List.setIfInBounds_toArray, List.set_cons_zero, List.set_cons_succ]
          refine wpAnyH_ready (rs := [7]) (by kernel_rfl) (by simp) (AllReadyH.cons rfl (fun K hK => ?_) AllReadyH.nil)
          obtain ⟨pa23, pc23, wp23, hrun23, hpo23, hpb23, hpk23⟩ := push_rs (T := 68) (O := 70) Try.underlying34 wrInfo10 (by decide) wv22 (xb + 1) (.slice qxa RX qxc) rx ((.slice ca22 m cc22), l) (HXO.out.below hL22.out) (by rw [← Hm2.out]; exact HC.out) rfl (by rw [Hrx.out]; omega) (Nat.le_trans hbs hL22.out.size)
          rw [← HRX.out] at hrun23 hpo23
          dsimp only at hrun23
          have Hp23 := Lib.hid hpo23
          have Hpb23 := Lib.hid hpb23
          have Hpk := Lib.hid hpk23
          have hS23 := Lib.hid (hS22.out.alloc (Nat.le_trans hxsz hL22.out.size) (.cells #[(.slice ca22 m cc22)] 68))
          have hL23 := Lib.hid (hL22.out.alloc hL22.out.size (.cells #[(.slice ca22 m cc22)] 68))
          have cm23 := (cell_of_blk (blk_bels hL23.out HXB.out) 0).trans (show _ = some (.slice qxa RX qxc) from rfl)
          go_simp
          clear hpo23 hpb23 hpk23
          refine hK.out _ _ hS23 (fun _ => ?_)
          clear hK K
          try simp only [Act.put, List.setIfInBounds_toArray, List.set_cons_zero, List.set_cons_succ]
          refine wpAnyH_ready (rs := [8]) (by kernel_rfl) (by simp) (AllReadyH.cons rfl (fun K hK => ?_) AllReadyH.nil)
          have HBp := Lib.hid ((Hpb23.out.block xb (Nat.lt_succ_self _)).trans (blk_bels hL22.out HXB.out))
          have hS24 := Lib.hid ((hL22.out.mono hxsz).trans (Hpb23.out.mono (Nat.le_succ _)))
          refine wp_append_run (.tmp 47) (.tmp 50) 34 rfl _ _ _ _ rfl rfl hrun23 ?_
          refine hK.out _ _ hS24 (fun _ => ?_)
          clear hK K
          try simp only [Act.put, List.setIfInBounds_toArray, List.set_cons_zero, List.set_cons_succ]
          refine wpAnyH_take (i := 9) (oi := { dst := some 52, op := Op.nilCheck (Operand.tmp 43), type := 0, pos := "law.go:59", after := #[{ on := 0, ground := Ground.data }, { on := 0, ground := Ground.phase }, { on := 1, ground := Ground.phase }, { on := 2, ground := Ground.phase }, { on := 3, ground := Ground.phase }, { on := 4, ground := Ground.phase }, { on := 5, ground := Ground.phase }, { on := 6, ground := Ground.phase }, { on := 7, ground := Ground.phase }, { on := 8, ground := Ground.phase }], guard := none }) (v := ?_) rfl (by kernel_rfl) (by kernel_rfl) (by kernel_rfl) (fun _ _ _ h => h) (Or.inl ⟨by rfl, ?hy25⟩) hS24 ?_
          case hy25 => (intro V hSw; (try dsimp only at hSw); clear hSw; go_simp; try with_reducible rfl)
          try simp only [Act.put, List.setIfInBounds_toArray, List.set_cons_zero, List.set_cons_succ]
          refine wpAnyH_take (i := 10) (oi := { dst := some 53, op := Op.fieldAddr 36 (Operand.tmp 52) 0, type := 0, pos := "law.go:59", after := #[{ on := 9, ground := Ground.data }, { on := 0, ground := Ground.phase }, { on := 1, ground := Ground.phase }, { on := 2, ground := Ground.phase }, { on := 3, ground := Ground.phase }, { on := 4, ground := Ground.phase }, { on := 5, ground := Ground.phase }, { on := 6, ground := Ground.phase }, { on := 7, ground := Ground.phase }, { on := 8, ground := Ground.phase }], guard := none }) (v := ?_) rfl (by kernel_rfl) (by kernel_rfl) (by kernel_rfl) (fun _ _ _ h => h) (Or.inl ⟨by rfl, ?hy26⟩) hS24 ?_
          case hy26 => (intro V hSw; (try dsimp only at hSw); clear hSw; go_simp; try with_reducible rfl)
          try simp only [Act.put, List.setIfInBounds_toArray, List.set_cons_zero, List.set_cons_succ]
          refine wpAnyH_ready (rs := [11]) (by kernel_rfl) (by simp) (AllReadyH.cons rfl (fun K hK => ?_) AllReadyH.nil)
          have pc2 := (cell_of_blk HBp.out 0).trans (show _ = some (.slice qxa RX qxc) from rfl)
          have pz2 := frozen_of_blk HBp.out 0
          have hS27 := Lib.hid (hS24.out.setCell (p := ⟨xb, 0, none⟩) (Nat.le_refl _) (.slice pa23 (RX + 1) pc23))
          go_simp
          clear pc2 pz2
          refine hK.out _ _ hS27 (fun _ => ?_)
          clear hK K
          try simp only [Act.put, List.setIfInBounds_toArray, List.set_cons_zero, List.set_cons_succ]
          refine wpAnyH_done (by kernel_rfl) ?_ _
          have HKe := Lib.hid (((KeepX.of_below hL22.out).trans (fun b o hbo _ h4 => Hpk.out b o hbo h4)).trans (KeepX.set (i := 0) (x := (.slice pa23 (RX + 1) pc23)) HBp.out))
          have hsz6 : w5.heap.size ≤ (wp23.setCell ⟨xb, 0, none⟩ (.slice pa23 (RX + 1) pc23)).heap.size := by
            have h9 := Nat.le_trans hL22.out.size Hpb23.out.size
            simpa [World.setCell] using h9
          have HM6 := Lib.hid (HMo.out.keep HKe.out hsz6)
          have HX6 : Hid (IsXo (wp23.setCell ⟨xb, 0, none⟩ (.slice pa23 (RX + 1) pc23)) (xb + 1) xb most (rx ++ [(((.slice ca22 m cc22) : Value), l)])) := Lib.hid ⟨⟨_, _, by
            have e2 : (rx ++ [(((.slice ca22 m cc22) : Value), l)]).length = RX + 1 := by rw [List.length_append, ← HRX.out]; rfl
            rw [e2]
            exact ⟨(blk_set HBp.out).trans rfl, Hp23.out.far (Nat.lt_succ_self _)⟩⟩, Nat.lt_succ_self _, Nat.le_trans hbs hsz6⟩
          have Hb6 := Lib.hid (Hb5.out.trans (hS27.out.mono (Nat.le_of_lt hwx)))
          have Hm61 := Lib.hid (HKe.out _ _ Hms1.out (fun cs fr e => by cases e) (fun cs fr e => by cases e))
          have Hm62 := Lib.hid (HKe.out _ _ Hms2.out (fun cs fr e => by cases e) (fun cs fr e => by cases e))
          have Heq6 : Hid (opsOf (rx ++ [(((.slice ca22 m cc22) : Value), l)]) = opsOf (rm ++ [(val, l)])) := Lib.hid (by rw [opsOf_snoc, opsOf_snoc, Heq.out])
          go_wp2_with fail
          generalize wp23.setCell ⟨xb, 0, none⟩ (.slice pa23 (RX + 1) pc23) = w6 at *
          obtain ⟨pma, pmc, hMB, hMO⟩ := HM6.out.ex
          obtain ⟨pxa, pxc, hXB, hXO⟩ := HX6.out.ex
          obtain ⟨RL, hRL⟩ : ∃ q, q = (rm ++ [(val, l)]).length := ⟨_, rfl⟩
          obtain ⟨LS, hLS⟩ : ∃ q, q = lastN (rm ++ [(val, l)]) := ⟨_, rfl⟩
          have hxl : (rx ++ [(((.slice ca22 m cc22) : Value), l)]).length = RL := by rw [hRL, ← opsOf_len, Heq6.out, opsOf_len]
          have hxs : lastN (rx ++ [(((.slice ca22 m cc22) : Value), l)]) = LS := by rw [hLS, lastN_ops, lastN_ops, Heq6.out]
          rw [← hRL, ← hLS] at hMB
          rw [hxl] at hXB hXO
          have hLSb : LS ≤ 1000000 := by rw [hLS, lastN_snoc, ← Hls.out, ← Hm2.out]; omega
          have XL0 := Lib.hid (fun (A : World) (hA : Below w6.heap.size w6 A) => rlast_any xb (.slice pxa RL pxc) most (rx ++ [(((.slice ca22 m cc22) : Value), l)]) A (blk_bels hA hXB) (hXO.isWs.below hA) (by rw [hxs]; exact hLSb))
          rw [hxs] at XL0
          have ML0 : Hid (∀ A : World, Below w6.heap.size w6 A → Calls Try.prog 25 #[.pointer (some ⟨mb, 0, none⟩)] A fun e W' => e = .returned (.int .i64 (LS : Nat)) ∧ Below A.heap.size A W') := Lib.hid (fun A hA => (mlast_any A mb most _ _ _ _ _ (blk_bels hA hMB)).mono fun e W' h => ⟨h.1, by rw [h.2]; exact Below.refl _ _⟩)
          have MW0 : Hid (∀ A : World, Below w6.heap.size w6 A → Calls Try.prog 16 #[.pointer (some ⟨mb, 0, none⟩)] A fun e W' => e = .returned (.int .i64 (RL : Nat)) ∧ Below A.heap.size A W') := Lib.hid (fun A hA => (mwrites_any A mb most _ _ _ _ _ _ _ (blk_bels hA hMB)).mono fun e W' h => ⟨h.1, by rw [h.2]; exact Below.refl _ _⟩)
          have x0 := (cell_of_blk hXB 0).trans (show _ = some (.slice pxa RL pxc) from rfl)
          clear hMB hMO hXB hXO hRL hLS hxl hxs hLSb
          go_upto_region 13 with fail
          refine wp_region_held_drew (S := fun V' => Hid (Below w6.heap.size w6 V')) (by kernel_rfl) (Lib.hid ((Below.refl _ _).drew)) (fun hS0 => ?_)
          refine wpAnyH_take (i := 0) (oi := { dst := some 54, op := Op.move (Operand.tmp 7), type := 25, pos := "law.go:61", after := #[], guard := none }) (v := ?_) rfl (by kernel_rfl) (by kernel_rfl) (by kernel_rfl) (fun _ _ _ h => h) (Or.inl ⟨by rfl, ?hy28⟩) hS0 ?_
          case hy28 => (intro V hSw; (try dsimp only at hSw); clear hSw; go_simp; try with_reducible rfl)
          try simp only [Act.put, List.setIfInBounds_toArray, List.set_cons_zero, List.set_cons_succ]
          refine wpAnyH_take (i := 2) (oi := { dst := some 56, op := Op.move (Operand.tmp 8), type := 26, pos := "law.go:61", after := #[], guard := none }) (v := ?_) rfl (by kernel_rfl) (by kernel_rfl) (by kernel_rfl) (fun _ _ _ h => h) (Or.inl ⟨by rfl, ?hy29⟩) hS0 ?_
          case hy29 => (intro V hSw; (try dsimp only at hSw); clear hSw; go_simp; try with_reducible rfl)
          try simp only [Act.put, List.setIfInBounds_toArray, List.set_cons_zero, List.set_cons_succ]
          refine wpAnyH_take (i := 3) (oi := { dst := some 57, op := Op.nilCheck (Operand.tmp 56), type := 0, pos := "law.go:61", after := #[{ on := 2, ground := Ground.data }], guard := none }) (v := ?_) rfl (by kernel_rfl) (by kernel_rfl) (by kernel_rfl) (fun _ _ _ h => h) (Or.inl ⟨by rfl, ?hy30⟩) hS0 ?_
          case hy30 => (intro V hSw; (try dsimp only at hSw); clear hSw; go_simp; try with_reducible rfl)
          try simp only [Act.put, List.setIfInBounds_toArray, List.set_cons_zero, List.set_cons_succ]
          refine wpAnyH_take (i := 4) (oi := { dst := some 58, op := Op.fieldAddr 36 (Operand.tmp 57) 0, type := 0, pos := "law.go:61", after := #[{ on := 3, ground := Ground.data }], guard := none }) (v := ?_) rfl (by kernel_rfl) (by kernel_rfl) (by kernel_rfl) (fun _ _ _ h => h) (Or.inl ⟨by rfl, ?hy31⟩) hS0 ?_
          case hy31 => (intro V hSw; (try dsimp only at hSw); clear hSw; go_simp; try with_reducible rfl)
          try simp only [Act.put, List.setIfInBounds_toArray, List.set_cons_zero, List.set_cons_succ]
          refine wpAnyH_take (i := 5) (oi := { dst := some 59, op := Op.load 34 (Operand.tmp 58), type := 34, pos := "law.go:61", after := #[{ on := 4, ground := Ground.data }], guard := none }) (v := ?_) rfl (by kernel_rfl) (by kernel_rfl) (by kernel_rfl) (fun _ _ _ h => h) (Or.inl ⟨by rfl, ?hy32⟩) hS0 ?_
          case hy32 => (intro V hSw; (try dsimp only at hSw); have q0 := grow_cellO hSw.out (block_lt_of_cell x0) x0; clear hSw; go_simp; try with_reducible rfl)
          try simp only [Act.put, List.setIfInBounds_toArray, List.set_cons_zero, List.set_cons_succ]
          refine wpAnyH_take (i := 6) (oi := { dst := some 60, op := Op.call { callee := Callee.builtin Builtin.len, args := #[Operand.tmp 59], argTypes := #[34] }, type := 3, pos := "law.go:61", after := #[{ on := 5, ground := Ground.data }], guard := none }) (v := ?_) rfl (by kernel_rfl) (by kernel_rfl) (by kernel_rfl) (fun _ _ _ h => h) (Or.inl ⟨by rfl, ?hy33⟩) hS0 ?_
          case hy33 => (intro V hSw; (try dsimp only at hSw); clear hSw; go_simp; try with_reducible rfl)
          try simp only [Act.put, List.setIfInBounds_toArray, List.set_cons_zero, List.set_cons_succ]
          refine wpAnyH_ready (rs := [1]) (by kernel_rfl) (by simp) (AllReadyH.cons rfl (fun K hK => ?_) AllReadyH.nil)
          go_simp
          refine (MW0.out _ hS0.out).mono ?_
          rintro e wv34 ⟨rfl, hv34⟩
          have hS34 := Lib.hid (hS0.out.trans (hv34.mono hS0.out.size))
          clear hv34
          refine hK.out _ _ hS34 (fun _ => ?_)
          clear hK K
          try simp only [Act.put, List.setIfInBounds_toArray, List.set_cons_zero, List.set_cons_succ]
          refine wpAnyH_take (i := 7) (oi := { dst := some 61, op := Op.binOp BinOp.neq 3 (Operand.tmp 55) (Operand.tmp 60) 3, type := 4, pos := "law.go:61", after := #[{ on := 1, ground := Ground.data }, { on := 6, ground := Ground.data }], guard := none }) (v := ?_) rfl (by kernel_rfl) (by kernel_rfl) (by kernel_rfl) (fun _ _ _ h => h) (Or.inl ⟨by rfl, ?hy35⟩) hS34 ?_
          case hy35 => (intro V hSw; (try dsimp only at hSw); clear hSw; go_simp; try with_reducible rfl)
          try simp only [Act.put, List.setIfInBounds_toArray, List.set_cons_zero, List.set_cons_succ]
          refine wpAnyH_take (i := 8) (oi := { dst := some 62, op := Op.move (Operand.tmp 61), type := 4, pos := "law.go:61", after := #[{ on := 7, ground := Ground.data }, { on := 1, ground := Ground.chain }], guard := none }) (v := ?_) rfl (by kernel_rfl) (by kernel_rfl) (by kernel_rfl) (fun _ _ _ h => h) (Or.inl ⟨by rfl, ?hy36⟩) hS34 ?_
          case hy36 => (intro V hSw; (try dsimp only at hSw); clear hSw; go_simp; try with_reducible rfl)
          try simp only [Act.put, List.setIfInBounds_toArray, List.set_cons_zero, List.set_cons_succ]
          refine wpAnyH_take (i := 9) (oi := { dst := some 63, op := Op.move (Operand.tmp 7), type := 25, pos := "law.go:61", after := #[{ on := 8, ground := Ground.guard }], guard := some (8, false) }) (v := ?_) rfl (by kernel_rfl) (by kernel_rfl) (by kernel_rfl) (fun _ _ _ h => h) (Or.inl ⟨by rfl, ?hy37⟩) hS34 ?_
          case hy37 => (intro V hSw; (try dsimp only at hSw); clear hSw; go_simp; try with_reducible rfl)
          try simp only [Act.put, List.setIfInBounds_toArray, List.set_cons_zero, List.set_cons_succ]
          refine wpAnyH_take (i := 11) (oi := { dst := some 65, op := Op.move (Operand.tmp 8), type := 26, pos := "law.go:61", after := #[{ on := 8, ground := Ground.guard }], guard := some (8, false) }) (v := ?_) rfl (by kernel_rfl) (by kernel_rfl) (by kernel_rfl) (fun _ _ _ h => h) (Or.inl ⟨by rfl, ?hy38⟩) hS34 ?_
          case hy38 => (intro V hSw; (try dsimp only at hSw); clear hSw; go_simp; try with_reducible rfl)
          try simp only [Act.put, List.setIfInBounds_toArray, List.set_cons_zero, List.set_cons_succ]
          refine wpAnyH_ready (rs := [10]) (by kernel_rfl) (by simp) (AllReadyH.cons rfl (fun K hK => ?_) AllReadyH.nil)
          go_simp
          refine (ML0.out _ hS34.out).mono ?_
          rintro e wv39 ⟨rfl, hv39⟩
          have hS39 := Lib.hid (hS34.out.trans (hv39.mono hS34.out.size))
          clear hv39
          refine hK.out _ _ hS39 (fun _ => ?_)
          clear hK K
          try simp only [Act.put, List.setIfInBounds_toArray, List.set_cons_zero, List.set_cons_succ]
          refine wpAnyH_ready (rs := [12]) (by kernel_rfl) (by simp) (AllReadyH.cons rfl (fun K hK => ?_) AllReadyH.nil)
          go_simp
          refine (XL0.out _ hS39.out).mono ?_
          rintro e wv40 ⟨rfl, hv40⟩
          have hS40 := Lib.hid (hS39.out.trans (hv40.mono hS39.out.size))
          clear hv40
          refine hK.out _ _ hS40 (fun _ => ?_)
          clear hK K
          try simp only [Act.put, List.setIfInBounds_toArray, List.set_cons_zero, List.set_cons_succ]
          refine wpAnyH_take (i := 13) (oi := { dst := some 67, op := Op.binOp BinOp.neq 3 (Operand.tmp 64) (Operand.tmp 66) 3, type := 4, pos := "law.go:61", after := #[{ on := 10, ground := Ground.data }, { on := 12, ground := Ground.data }, { on := 8, ground := Ground.guard }], guard := some (8, false) }) (v := ?_) rfl (by kernel_rfl) (by kernel_rfl) (by kernel_rfl) (fun _ _ _ h => h) (Or.inl ⟨by rfl, ?hy41⟩) hS40 ?_
          case hy41 => (intro V hSw; (try dsimp only at hSw); clear hSw; go_simp; try with_reducible rfl)
          try simp only [Act.put, List.setIfInBounds_toArray, List.set_cons_zero, List.set_cons_succ]
          refine wpAnyH_take (i := 14) (oi := { dst := some 68, op := Op.pick (Operand.tmp 62) (Operand.const (Value.bool true)) (Operand.tmp 67), type := 4, pos := "law.go:61", after := #[{ on := 8, ground := Ground.data }, { on := 13, ground := Ground.data }], guard := none }) (v := ?_) rfl (by kernel_rfl) (by kernel_rfl) (by kernel_rfl) (fun _ _ _ h => h) (Or.inl ⟨by rfl, ?hy42⟩) hS40 ?_
          case hy42 => (intro V hSw; (try dsimp only at hSw); clear hSw; go_simp; try with_reducible rfl)
          try simp only [Act.put, List.setIfInBounds_toArray, List.set_cons_zero, List.set_cons_succ]
          refine wpAnyH_done (by kernel_rfl) ?_ _
          have HDe := Lib.hid (show FillD w _ (xb + 1) mb xb most w.heap.size (w.heap.size + 1) (rm ++ [(val, l)]) (rx ++ [(((.slice ca22 m cc22) : Value), l)]) from ⟨HM6.out.bel hS40.out, HX6.out.bel hS40.out, Heq6.out, Hb6.out.trans (hS40.out.mono Hb6.out.size)⟩)
          have Hn1 := Lib.hid (blk_bels hS40.out Hm61.out)
          have Hn2 := Lib.hid (blk_bels hS40.out Hm62.out)
          clear x0 hS0
          go_wp2_with fail
          go_roundw
          case rel => exact ⟨k + 1, by omega, by go_num, rm ++ [(val, l)], rx ++ [(((.slice ca22 m cc22) : Value), l)], HDe.out, by rw [Htk.out, fillT_snoc, ← Hrm.out, fillL, ← lastN_ops, ← Hls.out, ← He0.out, if_pos rfl, opsOf_snoc], by rw [List.length_append]; simp; omega, by rw [lastN_snoc, ← Hls.out, ← Hm2.out]; omega, Hn1.out, Hn2.out⟩
          case measure => simp [intOf]; omega
        · go_simp
          refine (HRf.out _ hL0.out).mono ?_
          rintro e wv43 ⟨vc43, rfl, hown43, hv43⟩
          have hL43 := Lib.hid (hL0.out.trans (hv43.mono hL0.out.size))
          have hS43 := Lib.hid (hL43.out.mono hxsz)
          rw [OwnRo, ← Hm2.out] at hown43
          obtain ⟨ca43, cc43, rfl⟩ := own_slice hown43
          have HC := Lib.hid (own_mono hown43 (Nat.le_trans hbs hL0.out.size))
          have cm43 := (cell_of_blk (blk_bels hL43.out HXB.out) 0).trans (show _ = some (.slice qxa RX qxc) from rfl)
          clear hv43 hown43
          refine hK.out _ _ hS43 (fun _ => ?_)
          clear hK K
          try simp only [Act.put, List.setIfInBounds_toArray, List.set_cons_zero, List.set_cons_succ]
          refine wpAnyH_ready (rs := [4, 7]) (by kernel_rfl) (by simp) (AllReadyH.cons rfl (fun K hK => ?_) (AllReadyH.cons rfl (fun K hK => ?_) AllReadyH.nil))
          · have ml44 := cm43
            go_simp
            clear ml44
            refine hK.out _ _ hS43 (fun _ => ?_)
            clear hK K
            try simp only [Act.put, List.setIfInBounds_toArray, List.set_cons_zero, List.set_cons_succ]
            refine wpAnyH_ready (rs := [7]) (by kernel_rfl) (by simp) (AllReadyH.cons rfl (fun K hK => ?_) AllReadyH.nil)
            obtain ⟨pa45, pc45, wp45, hrun45, hpo45, hpb45, hpk45⟩ := push_rs (T := 68) (O := 70) Try.underlying34 wrInfo10 (by decide) wv43 (xb + 1) (.slice qxa RX qxc) rx ((.slice ca43 m cc43), l) (HXO.out.below hL43.out) (by rw [← Hm2.out]; exact HC.out) rfl (by rw [Hrx.out]; omega) (Nat.le_trans hbs hL43.out.size)
            rw [← HRX.out] at hrun45 hpo45
            dsimp only at hrun45
            have Hp45 := Lib.hid hpo45
            have Hpb45 := Lib.hid hpb45
            have Hpk := Lib.hid hpk45
            have hS45 := Lib.hid (hS43.out.alloc (Nat.le_trans hxsz hL43.out.size) (.cells #[(.slice ca43 m cc43)] 68))
            have hL45 := Lib.hid (hL43.out.alloc hL43.out.size (.cells #[(.slice ca43 m cc43)] 68))
            have cm45 := (cell_of_blk (blk_bels hL45.out HXB.out) 0).trans (show _ = some (.slice qxa RX qxc) from rfl)
            go_simp
            clear hpo45 hpb45 hpk45
            refine hK.out _ _ hS45 (fun _ => ?_)
            clear hK K
            try simp only [Act.put, List.setIfInBounds_toArray, List.set_cons_zero, List.set_cons_succ]
            refine wpAnyH_ready (rs := [8]) (by kernel_rfl) (by simp) (AllReadyH.cons rfl (fun K hK => ?_) AllReadyH.nil)
            have HBp := Lib.hid ((Hpb45.out.block xb (Nat.lt_succ_self _)).trans (blk_bels hL43.out HXB.out))
            have hS46 := Lib.hid ((hL43.out.mono hxsz).trans (Hpb45.out.mono (Nat.le_succ _)))
            refine wp_append_run (.tmp 47) (.tmp 50) 34 rfl _ _ _ _ rfl rfl hrun45 ?_
            refine hK.out _ _ hS46 (fun _ => ?_)
            clear hK K
            try simp only [Act.put, List.setIfInBounds_toArray, List.set_cons_zero, List.set_cons_succ]
            refine wpAnyH_take (i := 9) (oi := { dst := some 52, op := Op.nilCheck (Operand.tmp 43), type := 0, pos := "law.go:59", after := #[{ on := 0, ground := Ground.data }, { on := 0, ground := Ground.phase }, { on := 1, ground := Ground.phase }, { on := 2, ground := Ground.phase }, { on := 3, ground := Ground.phase }, { on := 4, ground := Ground.phase }, { on := 5, ground := Ground.phase }, { on := 6, ground := Ground.phase }, { on := 7, ground := Ground.phase }, { on := 8, ground := Ground.phase }], guard := none }) (v := ?_) rfl (by kernel_rfl) (by kernel_rfl) (by kernel_rfl) (fun _ _ _ h => h) (Or.inl ⟨by rfl, ?hy47⟩) hS46 ?_
            case hy47 => (intro V hSw; (try dsimp only at hSw); clear hSw; go_simp; try with_reducible rfl)
            try simp only [Act.put, List.setIfInBounds_toArray, List.set_cons_zero, List.set_cons_succ]
            refine wpAnyH_take (i := 10) (oi := { dst := some 53, op := Op.fieldAddr 36 (Operand.tmp 52) 0, type := 0, pos := "law.go:59", after := #[{ on := 9, ground := Ground.data }, { on := 0, ground := Ground.phase }, { on := 1, ground := Ground.phase }, { on := 2, ground := Ground.phase }, { on := 3, ground := Ground.phase }, { on := 4, ground := Ground.phase }, { on := 5, ground := Ground.phase }, { on := 6, ground := Ground.phase }, { on := 7, ground := Ground.phase }, { on := 8, ground := Ground.phase }], guard := none }) (v := ?_) rfl (by kernel_rfl) (by kernel_rfl) (by kernel_rfl) (fun _ _ _ h => h) (Or.inl ⟨by rfl, ?hy48⟩) hS46 ?_
            case hy48 => (intro V hSw; (try dsimp only at hSw); clear hSw; go_simp; try with_reducible rfl)
            try simp only [Act.put, List.setIfInBounds_toArray, List.set_cons_zero, List.set_cons_succ]
            refine wpAnyH_ready (rs := [11]) (by kernel_rfl) (by simp) (AllReadyH.cons rfl (fun K hK => ?_) AllReadyH.nil)
            have pc2 := (cell_of_blk HBp.out 0).trans (show _ = some (.slice qxa RX qxc) from rfl)
            have pz2 := frozen_of_blk HBp.out 0
            have hS49 := Lib.hid (hS46.out.setCell (p := ⟨xb, 0, none⟩) (Nat.le_refl _) (.slice pa45 (RX + 1) pc45))
            go_simp
            clear pc2 pz2
            refine hK.out _ _ hS49 (fun _ => ?_)
            clear hK K
            try simp only [Act.put, List.setIfInBounds_toArray, List.set_cons_zero, List.set_cons_succ]
            refine wpAnyH_done (by kernel_rfl) ?_ _
            have HKe := Lib.hid (((KeepX.of_below hL43.out).trans (fun b o hbo _ h4 => Hpk.out b o hbo h4)).trans (KeepX.set (i := 0) (x := (.slice pa45 (RX + 1) pc45)) HBp.out))
            have hsz6 : w5.heap.size ≤ (wp45.setCell ⟨xb, 0, none⟩ (.slice pa45 (RX + 1) pc45)).heap.size := by
              have h9 := Nat.le_trans hL43.out.size Hpb45.out.size
              simpa [World.setCell] using h9
            have HM6 := Lib.hid (HMo.out.keep HKe.out hsz6)
            have HX6 : Hid (IsXo (wp45.setCell ⟨xb, 0, none⟩ (.slice pa45 (RX + 1) pc45)) (xb + 1) xb most (rx ++ [(((.slice ca43 m cc43) : Value), l)])) := Lib.hid ⟨⟨_, _, by
              have e2 : (rx ++ [(((.slice ca43 m cc43) : Value), l)]).length = RX + 1 := by rw [List.length_append, ← HRX.out]; rfl
              rw [e2]
              exact ⟨(blk_set HBp.out).trans rfl, Hp45.out.far (Nat.lt_succ_self _)⟩⟩, Nat.lt_succ_self _, Nat.le_trans hbs hsz6⟩
            have Hb6 := Lib.hid (Hb5.out.trans (hS49.out.mono (Nat.le_of_lt hwx)))
            have Hm61 := Lib.hid (HKe.out _ _ Hms1.out (fun cs fr e => by cases e) (fun cs fr e => by cases e))
            have Hm62 := Lib.hid (HKe.out _ _ Hms2.out (fun cs fr e => by cases e) (fun cs fr e => by cases e))
            have Heq6 : Hid (opsOf (rx ++ [(((.slice ca43 m cc43) : Value), l)]) = opsOf (rm ++ [(val, l)])) := Lib.hid (by rw [opsOf_snoc, opsOf_snoc, Heq.out])
            go_wp2_with fail
            generalize wp45.setCell ⟨xb, 0, none⟩ (.slice pa45 (RX + 1) pc45) = w6 at *
            obtain ⟨pma, pmc, hMB, hMO⟩ := HM6.out.ex
            obtain ⟨pxa, pxc, hXB, hXO⟩ := HX6.out.ex
            obtain ⟨RL, hRL⟩ : ∃ q, q = (rm ++ [(val, l)]).length := ⟨_, rfl⟩
            obtain ⟨LS, hLS⟩ : ∃ q, q = lastN (rm ++ [(val, l)]) := ⟨_, rfl⟩
            have hxl : (rx ++ [(((.slice ca43 m cc43) : Value), l)]).length = RL := by rw [hRL, ← opsOf_len, Heq6.out, opsOf_len]
            have hxs : lastN (rx ++ [(((.slice ca43 m cc43) : Value), l)]) = LS := by rw [hLS, lastN_ops, lastN_ops, Heq6.out]
            rw [← hRL, ← hLS] at hMB
            rw [hxl] at hXB hXO
            have hLSb : LS ≤ 1000000 := by rw [hLS, lastN_snoc, ← Hls.out, ← Hm2.out]; omega
            have XL0 := Lib.hid (fun (A : World) (hA : Below w6.heap.size w6 A) => rlast_any xb (.slice pxa RL pxc) most (rx ++ [(((.slice ca43 m cc43) : Value), l)]) A (blk_bels hA hXB) (hXO.isWs.below hA) (by rw [hxs]; exact hLSb))
            rw [hxs] at XL0
            have ML0 : Hid (∀ A : World, Below w6.heap.size w6 A → Calls Try.prog 25 #[.pointer (some ⟨mb, 0, none⟩)] A fun e W' => e = .returned (.int .i64 (LS : Nat)) ∧ Below A.heap.size A W') := Lib.hid (fun A hA => (mlast_any A mb most _ _ _ _ _ (blk_bels hA hMB)).mono fun e W' h => ⟨h.1, by rw [h.2]; exact Below.refl _ _⟩)
            have MW0 : Hid (∀ A : World, Below w6.heap.size w6 A → Calls Try.prog 16 #[.pointer (some ⟨mb, 0, none⟩)] A fun e W' => e = .returned (.int .i64 (RL : Nat)) ∧ Below A.heap.size A W') := Lib.hid (fun A hA => (mwrites_any A mb most _ _ _ _ _ _ _ (blk_bels hA hMB)).mono fun e W' h => ⟨h.1, by rw [h.2]; exact Below.refl _ _⟩)
            have x0 := (cell_of_blk hXB 0).trans (show _ = some (.slice pxa RL pxc) from rfl)
            clear hMB hMO hXB hXO hRL hLS hxl hxs hLSb
            go_upto_region 13 with fail
            refine wp_region_held_drew (S := fun V' => Hid (Below w6.heap.size w6 V')) (by kernel_rfl) (Lib.hid ((Below.refl _ _).drew)) (fun hS0 => ?_)
            refine wpAnyH_take (i := 0) (oi := { dst := some 54, op := Op.move (Operand.tmp 7), type := 25, pos := "law.go:61", after := #[], guard := none }) (v := ?_) rfl (by kernel_rfl) (by kernel_rfl) (by kernel_rfl) (fun _ _ _ h => h) (Or.inl ⟨by rfl, ?hy50⟩) hS0 ?_
            case hy50 => (intro V hSw; (try dsimp only at hSw); clear hSw; go_simp; try with_reducible rfl)
            try simp only [Act.put, List.setIfInBounds_toArray, List.set_cons_zero, List.set_cons_succ]
            refine wpAnyH_take (i := 2) (oi := { dst := some 56, op := Op.move (Operand.tmp 8), type := 26, pos := "law.go:61", after := #[], guard := none }) (v := ?_) rfl (by kernel_rfl) (by kernel_rfl) (by kernel_rfl) (fun _ _ _ h => h) (Or.inl ⟨by rfl, ?hy51⟩) hS0 ?_
            case hy51 => (intro V hSw; (try dsimp only at hSw); clear hSw; go_simp; try with_reducible rfl)
            try simp only [Act.put, List.setIfInBounds_toArray, List.set_cons_zero, List.set_cons_succ]
            refine wpAnyH_take (i := 3) (oi := { dst := some 57, op := Op.nilCheck (Operand.tmp 56), type := 0, pos := "law.go:61", after := #[{ on := 2, ground := Ground.data }], guard := none }) (v := ?_) rfl (by kernel_rfl) (by kernel_rfl) (by kernel_rfl) (fun _ _ _ h => h) (Or.inl ⟨by rfl, ?hy52⟩) hS0 ?_
            case hy52 => (intro V hSw; (try dsimp only at hSw); clear hSw; go_simp; try with_reducible rfl)
            try simp only [Act.put, List.setIfInBounds_toArray, List.set_cons_zero, List.set_cons_succ]
            refine wpAnyH_take (i := 4) (oi := { dst := some 58, op := Op.fieldAddr 36 (Operand.tmp 57) 0, type := 0, pos := "law.go:61", after := #[{ on := 3, ground := Ground.data }], guard := none }) (v := ?_) rfl (by kernel_rfl) (by kernel_rfl) (by kernel_rfl) (fun _ _ _ h => h) (Or.inl ⟨by rfl, ?hy53⟩) hS0 ?_
            case hy53 => (intro V hSw; (try dsimp only at hSw); clear hSw; go_simp; try with_reducible rfl)
            try simp only [Act.put, List.setIfInBounds_toArray, List.set_cons_zero, List.set_cons_succ]
            refine wpAnyH_take (i := 5) (oi := { dst := some 59, op := Op.load 34 (Operand.tmp 58), type := 34, pos := "law.go:61", after := #[{ on := 4, ground := Ground.data }], guard := none }) (v := ?_) rfl (by kernel_rfl) (by kernel_rfl) (by kernel_rfl) (fun _ _ _ h => h) (Or.inl ⟨by rfl, ?hy54⟩) hS0 ?_
            case hy54 => (intro V hSw; (try dsimp only at hSw); have q0 := grow_cellO hSw.out (block_lt_of_cell x0) x0; clear hSw; go_simp; try with_reducible rfl)
            try simp only [Act.put, List.setIfInBounds_toArray, List.set_cons_zero, List.set_cons_succ]
            refine wpAnyH_take (i := 6) (oi := { dst := some 60, op := Op.call { callee := Callee.builtin Builtin.len, args := #[Operand.tmp 59], argTypes := #[34] }, type := 3, pos := "law.go:61", after := #[{ on := 5, ground := Ground.data }], guard := none }) (v := ?_) rfl (by kernel_rfl) (by kernel_rfl) (by kernel_rfl) (fun _ _ _ h => h) (Or.inl ⟨by rfl, ?hy55⟩) hS0 ?_
            case hy55 => (intro V hSw; (try dsimp only at hSw); clear hSw; go_simp; try with_reducible rfl)
            try simp only [Act.put, List.setIfInBounds_toArray, List.set_cons_zero, List.set_cons_succ]
            refine wpAnyH_ready (rs := [1]) (by kernel_rfl) (by simp) (AllReadyH.cons rfl (fun K hK => ?_) AllReadyH.nil)
            go_simp
            refine (MW0.out _ hS0.out).mono ?_
            rintro e wv56 ⟨rfl, hv56⟩
            have hS56 := Lib.hid (hS0.out.trans (hv56.mono hS0.out.size))
            clear hv56
            refine hK.out _ _ hS56 (fun _ => ?_)
            clear hK K
            try simp only [Act.put, List.setIfInBounds_toArray, List.set_cons_zero, List.set_cons_succ]
            refine wpAnyH_take (i := 7) (oi := { dst := some 61, op := Op.binOp BinOp.neq 3 (Operand.tmp 55) (Operand.tmp 60) 3, type := 4, pos := "law.go:61", after := #[{ on := 1, ground := Ground.data }, { on := 6, ground := Ground.data }], guard := none }) (v := ?_) rfl (by kernel_rfl) (by kernel_rfl) (by kernel_rfl) (fun _ _ _ h => h) (Or.inl ⟨by rfl, ?hy57⟩) hS56 ?_
            case hy57 => (intro V hSw; (try dsimp only at hSw); clear hSw; go_simp; try with_reducible rfl)
            try simp only [Act.put, List.setIfInBounds_toArray, List.set_cons_zero, List.set_cons_succ]
            refine wpAnyH_take (i := 8) (oi := { dst := some 62, op := Op.move (Operand.tmp 61), type := 4, pos := "law.go:61", after := #[{ on := 7, ground := Ground.data }, { on := 1, ground := Ground.chain }], guard := none }) (v := ?_) rfl (by kernel_rfl) (by kernel_rfl) (by kernel_rfl) (fun _ _ _ h => h) (Or.inl ⟨by rfl, ?hy58⟩) hS56 ?_
            case hy58 => (intro V hSw; (try dsimp only at hSw); clear hSw; go_simp; try with_reducible rfl)
            try simp only [Act.put, List.setIfInBounds_toArray, List.set_cons_zero, List.set_cons_succ]
            refine wpAnyH_take (i := 9) (oi := { dst := some 63, op := Op.move (Operand.tmp 7), type := 25, pos := "law.go:61", after := #[{ on := 8, ground := Ground.guard }], guard := some (8, false) }) (v := ?_) rfl (by kernel_rfl) (by kernel_rfl) (by kernel_rfl) (fun _ _ _ h => h) (Or.inl ⟨by rfl, ?hy59⟩) hS56 ?_
            case hy59 => (intro V hSw; (try dsimp only at hSw); clear hSw; go_simp; try with_reducible rfl)
            try simp only [Act.put, List.setIfInBounds_toArray, List.set_cons_zero, List.set_cons_succ]
            refine wpAnyH_take (i := 11) (oi := { dst := some 65, op := Op.move (Operand.tmp 8), type := 26, pos := "law.go:61", after := #[{ on := 8, ground := Ground.guard }], guard := some (8, false) }) (v := ?_) rfl (by kernel_rfl) (by kernel_rfl) (by kernel_rfl) (fun _ _ _ h => h) (Or.inl ⟨by rfl, ?hy60⟩) hS56 ?_
            case hy60 => (intro V hSw; (try dsimp only at hSw); clear hSw; go_simp; try with_reducible rfl)
            try simp only [Act.put, List.setIfInBounds_toArray, List.set_cons_zero, List.set_cons_succ]
            refine wpAnyH_ready (rs := [10]) (by kernel_rfl) (by simp) (AllReadyH.cons rfl (fun K hK => ?_) AllReadyH.nil)
            go_simp
            refine (ML0.out _ hS56.out).mono ?_
            rintro e wv61 ⟨rfl, hv61⟩
            have hS61 := Lib.hid (hS56.out.trans (hv61.mono hS56.out.size))
            clear hv61
            refine hK.out _ _ hS61 (fun _ => ?_)
            clear hK K
            try simp only [Act.put, List.setIfInBounds_toArray, List.set_cons_zero, List.set_cons_succ]
            refine wpAnyH_ready (rs := [12]) (by kernel_rfl) (by simp) (AllReadyH.cons rfl (fun K hK => ?_) AllReadyH.nil)
            go_simp
            refine (XL0.out _ hS61.out).mono ?_
            rintro e wv62 ⟨rfl, hv62⟩
            have hS62 := Lib.hid (hS61.out.trans (hv62.mono hS61.out.size))
            clear hv62
            refine hK.out _ _ hS62 (fun _ => ?_)
            clear hK K
            try simp only [Act.put, List.setIfInBounds_toArray, List.set_cons_zero, List.set_cons_succ]
            refine wpAnyH_take (i := 13) (oi := { dst := some 67, op := Op.binOp BinOp.neq 3 (Operand.tmp 64) (Operand.tmp 66) 3, type := 4, pos := "law.go:61", after := #[{ on := 10, ground := Ground.data }, { on := 12, ground := Ground.data }, { on := 8, ground := Ground.guard }], guard := some (8, false) }) (v := ?_) rfl (by kernel_rfl) (by kernel_rfl) (by kernel_rfl) (fun _ _ _ h => h) (Or.inl ⟨by rfl, ?hy63⟩) hS62 ?_
            case hy63 => (intro V hSw; (try dsimp only at hSw); clear hSw; go_simp; try with_reducible rfl)
            try simp only [Act.put, List.setIfInBounds_toArray, List.set_cons_zero, List.set_cons_succ]
            refine wpAnyH_take (i := 14) (oi := { dst := some 68, op := Op.pick (Operand.tmp 62) (Operand.const (Value.bool true)) (Operand.tmp 67), type := 4, pos := "law.go:61", after := #[{ on := 8, ground := Ground.data }, { on := 13, ground := Ground.data }], guard := none }) (v := ?_) rfl (by kernel_rfl) (by kernel_rfl) (by kernel_rfl) (fun _ _ _ h => h) (Or.inl ⟨by rfl, ?hy64⟩) hS62 ?_
            case hy64 => (intro V hSw; (try dsimp only at hSw); clear hSw; go_simp; try with_reducible rfl)
            try simp only [Act.put, List.setIfInBounds_toArray, List.set_cons_zero, List.set_cons_succ]
            refine wpAnyH_done (by kernel_rfl) ?_ _
            have HDe := Lib.hid (show FillD w _ (xb + 1) mb xb most w.heap.size (w.heap.size + 1) (rm ++ [(val, l)]) (rx ++ [(((.slice ca43 m cc43) : Value), l)]) from ⟨HM6.out.bel hS62.out, HX6.out.bel hS62.out, Heq6.out, Hb6.out.trans (hS62.out.mono Hb6.out.size)⟩)
            have Hn1 := Lib.hid (blk_bels hS62.out Hm61.out)
            have Hn2 := Lib.hid (blk_bels hS62.out Hm62.out)
            clear x0 hS0
            go_wp2_with fail
            go_roundw
            case rel => exact ⟨k + 1, by omega, by go_num, rm ++ [(val, l)], rx ++ [(((.slice ca43 m cc43) : Value), l)], HDe.out, by rw [Htk.out, fillT_snoc, ← Hrm.out, fillL, ← lastN_ops, ← Hls.out, ← He0.out, if_pos rfl, opsOf_snoc], by rw [List.length_append]; simp; omega, by rw [lastN_snoc, ← Hls.out, ← Hm2.out]; omega, Hn1.out, Hn2.out⟩
            case measure => simp [intOf]; omega
          · obtain ⟨pa65, pc65, wp65, hrun65, hpo65, hpb65, hpk65⟩ := push_rs (T := 68) (O := 70) Try.underlying34 wrInfo10 (by decide) wv43 (xb + 1) (.slice qxa RX qxc) rx ((.slice ca43 m cc43), l) (HXO.out.below hL43.out) (by rw [← Hm2.out]; exact HC.out) rfl (by rw [Hrx.out]; omega) (Nat.le_trans hbs hL43.out.size)
            rw [← HRX.out] at hrun65 hpo65
            dsimp only at hrun65
            have Hp65 := Lib.hid hpo65
            have Hpb65 := Lib.hid hpb65
            have Hpk := Lib.hid hpk65
            have hS65 := Lib.hid (hS43.out.alloc (Nat.le_trans hxsz hL43.out.size) (.cells #[(.slice ca43 m cc43)] 68))
            have hL65 := Lib.hid (hL43.out.alloc hL43.out.size (.cells #[(.slice ca43 m cc43)] 68))
            have cm65 := (cell_of_blk (blk_bels hL65.out HXB.out) 0).trans (show _ = some (.slice qxa RX qxc) from rfl)
            go_simp
            clear hpo65 hpb65 hpk65
            refine hK.out _ _ hS65 (fun _ => ?_)
            clear hK K
            try simp only [Act.put, List.setIfInBounds_toArray, List.set_cons_zero, List.set_cons_succ]
            refine wpAnyH_ready (rs := [4]) (by kernel_rfl) (by simp) (AllReadyH.cons rfl (fun K hK => ?_) AllReadyH.nil)
            have ml66 := cm65
            go_simp
            clear ml66
            refine hK.out _ _ hS65 (fun _ => ?_)
            clear hK K
            try simp only [Act.put, List.setIfInBounds_toArray, List.set_cons_zero, List.set_cons_succ]
            refine wpAnyH_ready (rs := [8]) (by kernel_rfl) (by simp) (AllReadyH.cons rfl (fun K hK => ?_) AllReadyH.nil)
            have HBp := Lib.hid ((Hpb65.out.block xb (Nat.lt_succ_self _)).trans (blk_bels hL43.out HXB.out))
            have hS67 := Lib.hid ((hL43.out.mono hxsz).trans (Hpb65.out.mono (Nat.le_succ _)))
            refine wp_append_run (.tmp 47) (.tmp 50) 34 rfl _ _ _ _ rfl rfl hrun65 ?_
            refine hK.out _ _ hS67 (fun _ => ?_)
            clear hK K
            try simp only [Act.put, List.setIfInBounds_toArray, List.set_cons_zero, List.set_cons_succ]
            refine wpAnyH_take (i := 9) (oi := { dst := some 52, op := Op.nilCheck (Operand.tmp 43), type := 0, pos := "law.go:59", after := #[{ on := 0, ground := Ground.data }, { on := 0, ground := Ground.phase }, { on := 1, ground := Ground.phase }, { on := 2, ground := Ground.phase }, { on := 3, ground := Ground.phase }, { on := 4, ground := Ground.phase }, { on := 5, ground := Ground.phase }, { on := 6, ground := Ground.phase }, { on := 7, ground := Ground.phase }, { on := 8, ground := Ground.phase }], guard := none }) (v := ?_) rfl (by kernel_rfl) (by kernel_rfl) (by kernel_rfl) (fun _ _ _ h => h) (Or.inl ⟨by rfl, ?hy68⟩) hS67 ?_
            case hy68 => (intro V hSw; (try dsimp only at hSw); clear hSw; go_simp; try with_reducible rfl)
            try simp only [Act.put, List.setIfInBounds_toArray, List.set_cons_zero, List.set_cons_succ]
            refine wpAnyH_take (i := 10) (oi := { dst := some 53, op := Op.fieldAddr 36 (Operand.tmp 52) 0, type := 0, pos := "law.go:59", after := #[{ on := 9, ground := Ground.data }, { on := 0, ground := Ground.phase }, { on := 1, ground := Ground.phase }, { on := 2, ground := Ground.phase }, { on := 3, ground := Ground.phase }, { on := 4, ground := Ground.phase }, { on := 5, ground := Ground.phase }, { on := 6, ground := Ground.phase }, { on := 7, ground := Ground.phase }, { on := 8, ground := Ground.phase }], guard := none }) (v := ?_) rfl (by kernel_rfl) (by kernel_rfl) (by kernel_rfl) (fun _ _ _ h => h) (Or.inl ⟨by rfl, ?hy69⟩) hS67 ?_
            case hy69 => (intro V hSw; (try dsimp only at hSw); clear hSw; go_simp; try with_reducible rfl)
            try simp only [Act.put, List.setIfInBounds_toArray, List.set_cons_zero, List.set_cons_succ]
            refine wpAnyH_ready (rs := [11]) (by kernel_rfl) (by simp) (AllReadyH.cons rfl (fun K hK => ?_) AllReadyH.nil)
            have pc2 := (cell_of_blk HBp.out 0).trans (show _ = some (.slice qxa RX qxc) from rfl)
            have pz2 := frozen_of_blk HBp.out 0
            have hS70 := Lib.hid (hS67.out.setCell (p := ⟨xb, 0, none⟩) (Nat.le_refl _) (.slice pa65 (RX + 1) pc65))
            go_simp
            clear pc2 pz2
            refine hK.out _ _ hS70 (fun _ => ?_)
            clear hK K
            try simp only [Act.put, List.setIfInBounds_toArray, List.set_cons_zero, List.set_cons_succ]
            refine wpAnyH_done (by kernel_rfl) ?_ _
            have HKe := Lib.hid (((KeepX.of_below hL43.out).trans (fun b o hbo _ h4 => Hpk.out b o hbo h4)).trans (KeepX.set (i := 0) (x := (.slice pa65 (RX + 1) pc65)) HBp.out))
            have hsz6 : w5.heap.size ≤ (wp65.setCell ⟨xb, 0, none⟩ (.slice pa65 (RX + 1) pc65)).heap.size := by
              have h9 := Nat.le_trans hL43.out.size Hpb65.out.size
              simpa [World.setCell] using h9
            have HM6 := Lib.hid (HMo.out.keep HKe.out hsz6)
            have HX6 : Hid (IsXo (wp65.setCell ⟨xb, 0, none⟩ (.slice pa65 (RX + 1) pc65)) (xb + 1) xb most (rx ++ [(((.slice ca43 m cc43) : Value), l)])) := Lib.hid ⟨⟨_, _, by
              have e2 : (rx ++ [(((.slice ca43 m cc43) : Value), l)]).length = RX + 1 := by rw [List.length_append, ← HRX.out]; rfl
              rw [e2]
              exact ⟨(blk_set HBp.out).trans rfl, Hp65.out.far (Nat.lt_succ_self _)⟩⟩, Nat.lt_succ_self _, Nat.le_trans hbs hsz6⟩
            have Hb6 := Lib.hid (Hb5.out.trans (hS70.out.mono (Nat.le_of_lt hwx)))
            have Hm61 := Lib.hid (HKe.out _ _ Hms1.out (fun cs fr e => by cases e) (fun cs fr e => by cases e))
            have Hm62 := Lib.hid (HKe.out _ _ Hms2.out (fun cs fr e => by cases e) (fun cs fr e => by cases e))
            have Heq6 : Hid (opsOf (rx ++ [(((.slice ca43 m cc43) : Value), l)]) = opsOf (rm ++ [(val, l)])) := Lib.hid (by rw [opsOf_snoc, opsOf_snoc, Heq.out])
            go_wp2_with fail
            generalize wp65.setCell ⟨xb, 0, none⟩ (.slice pa65 (RX + 1) pc65) = w6 at *
            obtain ⟨pma, pmc, hMB, hMO⟩ := HM6.out.ex
            obtain ⟨pxa, pxc, hXB, hXO⟩ := HX6.out.ex
            obtain ⟨RL, hRL⟩ : ∃ q, q = (rm ++ [(val, l)]).length := ⟨_, rfl⟩
            obtain ⟨LS, hLS⟩ : ∃ q, q = lastN (rm ++ [(val, l)]) := ⟨_, rfl⟩
            have hxl : (rx ++ [(((.slice ca43 m cc43) : Value), l)]).length = RL := by rw [hRL, ← opsOf_len, Heq6.out, opsOf_len]
            have hxs : lastN (rx ++ [(((.slice ca43 m cc43) : Value), l)]) = LS := by rw [hLS, lastN_ops, lastN_ops, Heq6.out]
            rw [← hRL, ← hLS] at hMB
            rw [hxl] at hXB hXO
            have hLSb : LS ≤ 1000000 := by rw [hLS, lastN_snoc, ← Hls.out, ← Hm2.out]; omega
            have XL0 := Lib.hid (fun (A : World) (hA : Below w6.heap.size w6 A) => rlast_any xb (.slice pxa RL pxc) most (rx ++ [(((.slice ca43 m cc43) : Value), l)]) A (blk_bels hA hXB) (hXO.isWs.below hA) (by rw [hxs]; exact hLSb))
            rw [hxs] at XL0
            have ML0 : Hid (∀ A : World, Below w6.heap.size w6 A → Calls Try.prog 25 #[.pointer (some ⟨mb, 0, none⟩)] A fun e W' => e = .returned (.int .i64 (LS : Nat)) ∧ Below A.heap.size A W') := Lib.hid (fun A hA => (mlast_any A mb most _ _ _ _ _ (blk_bels hA hMB)).mono fun e W' h => ⟨h.1, by rw [h.2]; exact Below.refl _ _⟩)
            have MW0 : Hid (∀ A : World, Below w6.heap.size w6 A → Calls Try.prog 16 #[.pointer (some ⟨mb, 0, none⟩)] A fun e W' => e = .returned (.int .i64 (RL : Nat)) ∧ Below A.heap.size A W') := Lib.hid (fun A hA => (mwrites_any A mb most _ _ _ _ _ _ _ (blk_bels hA hMB)).mono fun e W' h => ⟨h.1, by rw [h.2]; exact Below.refl _ _⟩)
            have x0 := (cell_of_blk hXB 0).trans (show _ = some (.slice pxa RL pxc) from rfl)
            clear hMB hMO hXB hXO hRL hLS hxl hxs hLSb
            go_upto_region 13 with fail
            refine wp_region_held_drew (S := fun V' => Hid (Below w6.heap.size w6 V')) (by kernel_rfl) (Lib.hid ((Below.refl _ _).drew)) (fun hS0 => ?_)
            refine wpAnyH_take (i := 0) (oi := { dst := some 54, op := Op.move (Operand.tmp 7), type := 25, pos := "law.go:61", after := #[], guard := none }) (v := ?_) rfl (by kernel_rfl) (by kernel_rfl) (by kernel_rfl) (fun _ _ _ h => h) (Or.inl ⟨by rfl, ?hy71⟩) hS0 ?_
            case hy71 => (intro V hSw; (try dsimp only at hSw); clear hSw; go_simp; try with_reducible rfl)
            try simp only [Act.put, List.setIfInBounds_toArray, List.set_cons_zero, List.set_cons_succ]
            refine wpAnyH_take (i := 2) (oi := { dst := some 56, op := Op.move (Operand.tmp 8), type := 26, pos := "law.go:61", after := #[], guard := none }) (v := ?_) rfl (by kernel_rfl) (by kernel_rfl) (by kernel_rfl) (fun _ _ _ h => h) (Or.inl ⟨by rfl, ?hy72⟩) hS0 ?_
            case hy72 => (intro V hSw; (try dsimp only at hSw); clear hSw; go_simp; try with_reducible rfl)
            try simp only [Act.put, List.setIfInBounds_toArray, List.set_cons_zero, List.set_cons_succ]
            refine wpAnyH_take (i := 3) (oi := { dst := some 57, op := Op.nilCheck (Operand.tmp 56), type := 0, pos := "law.go:61", after := #[{ on := 2, ground := Ground.data }], guard := none }) (v := ?_) rfl (by kernel_rfl) (by kernel_rfl) (by kernel_rfl) (fun _ _ _ h => h) (Or.inl ⟨by rfl, ?hy73⟩) hS0 ?_
            case hy73 => (intro V hSw; (try dsimp only at hSw); clear hSw; go_simp; try with_reducible rfl)
            try simp only [Act.put, List.setIfInBounds_toArray, List.set_cons_zero, List.set_cons_succ]
            refine wpAnyH_take (i := 4) (oi := { dst := some 58, op := Op.fieldAddr 36 (Operand.tmp 57) 0, type := 0, pos := "law.go:61", after := #[{ on := 3, ground := Ground.data }], guard := none }) (v := ?_) rfl (by kernel_rfl) (by kernel_rfl) (by kernel_rfl) (fun _ _ _ h => h) (Or.inl ⟨by rfl, ?hy74⟩) hS0 ?_
            case hy74 => (intro V hSw; (try dsimp only at hSw); clear hSw; go_simp; try with_reducible rfl)
            try simp only [Act.put, List.setIfInBounds_toArray, List.set_cons_zero, List.set_cons_succ]
            refine wpAnyH_take (i := 5) (oi := { dst := some 59, op := Op.load 34 (Operand.tmp 58), type := 34, pos := "law.go:61", after := #[{ on := 4, ground := Ground.data }], guard := none }) (v := ?_) rfl (by kernel_rfl) (by kernel_rfl) (by kernel_rfl) (fun _ _ _ h => h) (Or.inl ⟨by rfl, ?hy75⟩) hS0 ?_
            case hy75 => (intro V hSw; (try dsimp only at hSw); have q0 := grow_cellO hSw.out (block_lt_of_cell x0) x0; clear hSw; go_simp; try with_reducible rfl)
            try simp only [Act.put, List.setIfInBounds_toArray, List.set_cons_zero, List.set_cons_succ]
            refine wpAnyH_take (i := 6) (oi := { dst := some 60, op := Op.call { callee := Callee.builtin Builtin.len, args := #[Operand.tmp 59], argTypes := #[34] }, type := 3, pos := "law.go:61", after := #[{ on := 5, ground := Ground.data }], guard := none }) (v := ?_) rfl (by kernel_rfl) (by kernel_rfl) (by kernel_rfl) (fun _ _ _ h => h) (Or.inl ⟨by rfl, ?hy76⟩) hS0 ?_
            case hy76 => (intro V hSw; (try dsimp only at hSw); clear hSw; go_simp; try with_reducible rfl)
            try simp only [Act.put, List.setIfInBounds_toArray, List.set_cons_zero, List.set_cons_succ]
            refine wpAnyH_ready (rs := [1]) (by kernel_rfl) (by simp) (AllReadyH.cons rfl (fun K hK => ?_) AllReadyH.nil)
            go_simp
            refine (MW0.out _ hS0.out).mono ?_
            rintro e wv77 ⟨rfl, hv77⟩
            have hS77 := Lib.hid (hS0.out.trans (hv77.mono hS0.out.size))
            clear hv77
            refine hK.out _ _ hS77 (fun _ => ?_)
            clear hK K
            try simp only [Act.put, List.setIfInBounds_toArray, List.set_cons_zero, List.set_cons_succ]
            refine wpAnyH_take (i := 7) (oi := { dst := some 61, op := Op.binOp BinOp.neq 3 (Operand.tmp 55) (Operand.tmp 60) 3, type := 4, pos := "law.go:61", after := #[{ on := 1, ground := Ground.data }, { on := 6, ground := Ground.data }], guard := none }) (v := ?_) rfl (by kernel_rfl) (by kernel_rfl) (by kernel_rfl) (fun _ _ _ h => h) (Or.inl ⟨by rfl, ?hy78⟩) hS77 ?_
            case hy78 => (intro V hSw; (try dsimp only at hSw); clear hSw; go_simp; try with_reducible rfl)
            try simp only [Act.put, List.setIfInBounds_toArray, List.set_cons_zero, List.set_cons_succ]
            refine wpAnyH_take (i := 8) (oi := { dst := some 62, op := Op.move (Operand.tmp 61), type := 4, pos := "law.go:61", after := #[{ on := 7, ground := Ground.data }, { on := 1, ground := Ground.chain }], guard := none }) (v := ?_) rfl (by kernel_rfl) (by kernel_rfl) (by kernel_rfl) (fun _ _ _ h => h) (Or.inl ⟨by rfl, ?hy79⟩) hS77 ?_
            case hy79 => (intro V hSw; (try dsimp only at hSw); clear hSw; go_simp; try with_reducible rfl)
            try simp only [Act.put, List.setIfInBounds_toArray, List.set_cons_zero, List.set_cons_succ]
            refine wpAnyH_take (i := 9) (oi := { dst := some 63, op := Op.move (Operand.tmp 7), type := 25, pos := "law.go:61", after := #[{ on := 8, ground := Ground.guard }], guard := some (8, false) }) (v := ?_) rfl (by kernel_rfl) (by kernel_rfl) (by kernel_rfl) (fun _ _ _ h => h) (Or.inl ⟨by rfl, ?hy80⟩) hS77 ?_
            case hy80 => (intro V hSw; (try dsimp only at hSw); clear hSw; go_simp; try with_reducible rfl)
            try simp only [Act.put, List.setIfInBounds_toArray, List.set_cons_zero, List.set_cons_succ]
            refine wpAnyH_take (i := 11) (oi := { dst := some 65, op := Op.move (Operand.tmp 8), type := 26, pos := "law.go:61", after := #[{ on := 8, ground := Ground.guard }], guard := some (8, false) }) (v := ?_) rfl (by kernel_rfl) (by kernel_rfl) (by kernel_rfl) (fun _ _ _ h => h) (Or.inl ⟨by rfl, ?hy81⟩) hS77 ?_
            case hy81 => (intro V hSw; (try dsimp only at hSw); clear hSw; go_simp; try with_reducible rfl)
            try simp only [Act.put, List.setIfInBounds_toArray, List.set_cons_zero, List.set_cons_succ]
            refine wpAnyH_ready (rs := [10]) (by kernel_rfl) (by simp) (AllReadyH.cons rfl (fun K hK => ?_) AllReadyH.nil)
            go_simp
            refine (ML0.out _ hS77.out).mono ?_
            rintro e wv82 ⟨rfl, hv82⟩
            have hS82 := Lib.hid (hS77.out.trans (hv82.mono hS77.out.size))
            clear hv82
            refine hK.out _ _ hS82 (fun _ => ?_)
            clear hK K
            try simp only [Act.put, List.setIfInBounds_toArray, List.set_cons_zero, List.set_cons_succ]
            refine wpAnyH_ready (rs := [12]) (by kernel_rfl) (by simp) (AllReadyH.cons rfl (fun K hK => ?_) AllReadyH.nil)
            go_simp
            refine (XL0.out _ hS82.out).mono ?_
            rintro e wv83 ⟨rfl, hv83⟩
            have hS83 := Lib.hid (hS82.out.trans (hv83.mono hS82.out.size))
            clear hv83
            refine hK.out _ _ hS83 (fun _ => ?_)
            clear hK K
            try simp only [Act.put, List.setIfInBounds_toArray, List.set_cons_zero, List.set_cons_succ]
            refine wpAnyH_take (i := 13) (oi := { dst := some 67, op := Op.binOp BinOp.neq 3 (Operand.tmp 64) (Operand.tmp 66) 3, type := 4, pos := "law.go:61", after := #[{ on := 10, ground := Ground.data }, { on := 12, ground := Ground.data }, { on := 8, ground := Ground.guard }], guard := some (8, false) }) (v := ?_) rfl (by kernel_rfl) (by kernel_rfl) (by kernel_rfl) (fun _ _ _ h => h) (Or.inl ⟨by rfl, ?hy84⟩) hS83 ?_
            case hy84 => (intro V hSw; (try dsimp only at hSw); clear hSw; go_simp; try with_reducible rfl)
            try simp only [Act.put, List.setIfInBounds_toArray, List.set_cons_zero, List.set_cons_succ]
            refine wpAnyH_take (i := 14) (oi := { dst := some 68, op := Op.pick (Operand.tmp 62) (Operand.const (Value.bool true)) (Operand.tmp 67), type := 4, pos := "law.go:61", after := #[{ on := 8, ground := Ground.data }, { on := 13, ground := Ground.data }], guard := none }) (v := ?_) rfl (by kernel_rfl) (by kernel_rfl) (by kernel_rfl) (fun _ _ _ h => h) (Or.inl ⟨by rfl, ?hy85⟩) hS83 ?_
            case hy85 => (intro V hSw; (try dsimp only at hSw); clear hSw; go_simp; try with_reducible rfl)
            try simp only [Act.put, List.setIfInBounds_toArray, List.set_cons_zero, List.set_cons_succ]
            refine wpAnyH_done (by kernel_rfl) ?_ _
            have HDe := Lib.hid (show FillD w _ (xb + 1) mb xb most w.heap.size (w.heap.size + 1) (rm ++ [(val, l)]) (rx ++ [(((.slice ca43 m cc43) : Value), l)]) from ⟨HM6.out.bel hS83.out, HX6.out.bel hS83.out, Heq6.out, Hb6.out.trans (hS83.out.mono Hb6.out.size)⟩)
            have Hn1 := Lib.hid (blk_bels hS83.out Hm61.out)
            have Hn2 := Lib.hid (blk_bels hS83.out Hm62.out)
            clear x0 hS0
            go_wp2_with fail
            go_roundw
            case rel => exact ⟨k + 1, by omega, by go_num, rm ++ [(val, l)], rx ++ [(((.slice ca43 m cc43) : Value), l)], HDe.out, by rw [Htk.out, fillT_snoc, ← Hrm.out, fillL, ← lastN_ops, ← Hls.out, ← He0.out, if_pos rfl, opsOf_snoc], by rw [List.length_append]; simp; omega, by rw [lastN_snoc, ← Hls.out, ← Hm2.out]; omega, Hn1.out, Hn2.out⟩
            case measure => simp [intOf]; omega
      · have hMo := hnz hz0
        have HMo := Lib.hid hMo
        have hz2 : (e0 == 0) = false := beq_eq_false_iff_ne.2 hz0
        clear hz hnz hMo
        obtain ⟨pma, pmc, hMB, hMO⟩ := HMo.out.ex
        obtain ⟨pxa, pxc, hXB, hXO⟩ := HX5.out.ex
        obtain ⟨RL, hRL⟩ : ∃ q, q = (rm).length := ⟨_, rfl⟩
        obtain ⟨LS, hLS⟩ : ∃ q, q = lastN (rm) := ⟨_, rfl⟩
        have hxl : (rx).length = RL := by rw [hRL, ← opsOf_len, Heq.out, opsOf_len]
        have hxs : lastN (rx) = LS := by rw [hLS, lastN_ops, lastN_ops, Heq.out]
        rw [← hRL, ← hLS] at hMB
        rw [hxl] at hXB hXO
        have hLSb : LS ≤ 1000000 := by rw [hLS, ← Hls.out]; omega
        have XL0 := Lib.hid (fun (A : World) (hA : Below w5.heap.size w5 A) => rlast_any xb (.slice pxa RL pxc) most (rx) A (blk_bels hA hXB) (hXO.isWs.below hA) (by rw [hxs]; exact hLSb))
        rw [hxs] at XL0
        have ML0 : Hid (∀ A : World, Below w5.heap.size w5 A → Calls Try.prog 25 #[.pointer (some ⟨mb, 0, none⟩)] A fun e W' => e = .returned (.int .i64 (LS : Nat)) ∧ Below A.heap.size A W') := Lib.hid (fun A hA => (mlast_any A mb most _ _ _ _ _ (blk_bels hA hMB)).mono fun e W' h => ⟨h.1, by rw [h.2]; exact Below.refl _ _⟩)
        have MW0 : Hid (∀ A : World, Below w5.heap.size w5 A → Calls Try.prog 16 #[.pointer (some ⟨mb, 0, none⟩)] A fun e W' => e = .returned (.int .i64 (RL : Nat)) ∧ Below A.heap.size A W') := Lib.hid (fun A hA => (mwrites_any A mb most _ _ _ _ _ _ _ (blk_bels hA hMB)).mono fun e W' h => ⟨h.1, by rw [h.2]; exact Below.refl _ _⟩)
        have x0 := (cell_of_blk hXB 0).trans (show _ = some (.slice pxa RL pxc) from rfl)
        clear hMB hMO hXB hXO hRL hLS hxl hxs hLSb
        go_upto_region 13 with fail
        refine wp_region_held_drew (S := fun V' => Hid (Below w5.heap.size w5 V')) (by kernel_rfl) (Lib.hid ((Below.refl _ _).drew)) (fun hS0 => ?_)
        refine wpAnyH_take (i := 0) (oi := { dst := some 54, op := Op.move (Operand.tmp 7), type := 25, pos := "law.go:61", after := #[], guard := none }) (v := ?_) rfl (by kernel_rfl) (by kernel_rfl) (by kernel_rfl) (fun _ _ _ h => h) (Or.inl ⟨by rfl, ?hy1⟩) hS0 ?_
        case hy1 => (intro V hSw; (try dsimp only at hSw); clear hSw; go_simp; try with_reducible rfl)
        try simp only [Act.put, List.setIfInBounds_toArray, List.set_cons_zero, List.set_cons_succ]
        refine wpAnyH_take (i := 2) (oi := { dst := some 56, op := Op.move (Operand.tmp 8), type := 26, pos := "law.go:61", after := #[], guard := none }) (v := ?_) rfl (by kernel_rfl) (by kernel_rfl) (by kernel_rfl) (fun _ _ _ h => h) (Or.inl ⟨by rfl, ?hy2⟩) hS0 ?_
        case hy2 => (intro V hSw; (try dsimp only at hSw); clear hSw; go_simp; try with_reducible rfl)
        try simp only [Act.put, List.setIfInBounds_toArray, List.set_cons_zero, List.set_cons_succ]
        refine wpAnyH_take (i := 3) (oi := { dst := some 57, op := Op.nilCheck (Operand.tmp 56), type := 0, pos := "law.go:61", after := #[{ on := 2, ground := Ground.data }], guard := none }) (v := ?_) rfl (by kernel_rfl) (by kernel_rfl) (by kernel_rfl) (fun _ _ _ h => h) (Or.inl ⟨by rfl, ?hy3⟩) hS0 ?_
        case hy3 => (intro V hSw; (try dsimp only at hSw); clear hSw; go_simp; try with_reducible rfl)
        try simp only [Act.put, List.setIfInBounds_toArray, List.set_cons_zero, List.set_cons_succ]
        refine wpAnyH_take (i := 4) (oi := { dst := some 58, op := Op.fieldAddr 36 (Operand.tmp 57) 0, type := 0, pos := "law.go:61", after := #[{ on := 3, ground := Ground.data }], guard := none }) (v := ?_) rfl (by kernel_rfl) (by kernel_rfl) (by kernel_rfl) (fun _ _ _ h => h) (Or.inl ⟨by rfl, ?hy4⟩) hS0 ?_
        case hy4 => (intro V hSw; (try dsimp only at hSw); clear hSw; go_simp; try with_reducible rfl)
        try simp only [Act.put, List.setIfInBounds_toArray, List.set_cons_zero, List.set_cons_succ]
        refine wpAnyH_take (i := 5) (oi := { dst := some 59, op := Op.load 34 (Operand.tmp 58), type := 34, pos := "law.go:61", after := #[{ on := 4, ground := Ground.data }], guard := none }) (v := ?_) rfl (by kernel_rfl) (by kernel_rfl) (by kernel_rfl) (fun _ _ _ h => h) (Or.inl ⟨by rfl, ?hy5⟩) hS0 ?_
        case hy5 => (intro V hSw; (try dsimp only at hSw); have q0 := grow_cellO hSw.out (block_lt_of_cell x0) x0; clear hSw; go_simp; try with_reducible rfl)
        try simp only [Act.put, List.setIfInBounds_toArray, List.set_cons_zero, List.set_cons_succ]
        refine wpAnyH_take (i := 6) (oi := { dst := some 60, op := Op.call { callee := Callee.builtin Builtin.len, args := #[Operand.tmp 59], argTypes := #[34] }, type := 3, pos := "law.go:61", after := #[{ on := 5, ground := Ground.data }], guard := none }) (v := ?_) rfl (by kernel_rfl) (by kernel_rfl) (by kernel_rfl) (fun _ _ _ h => h) (Or.inl ⟨by rfl, ?hy6⟩) hS0 ?_
        case hy6 => (intro V hSw; (try dsimp only at hSw); clear hSw; go_simp; try with_reducible rfl)
        try simp only [Act.put, List.setIfInBounds_toArray, List.set_cons_zero, List.set_cons_succ]
        refine wpAnyH_ready (rs := [1]) (by kernel_rfl) (by simp) (AllReadyH.cons rfl (fun K hK => ?_) AllReadyH.nil)
        go_simp
        refine (MW0.out _ hS0.out).mono ?_
        rintro e wv7 ⟨rfl, hv7⟩
        have hS7 := Lib.hid (hS0.out.trans (hv7.mono hS0.out.size))
        clear hv7
        refine hK.out _ _ hS7 (fun _ => ?_)
        clear hK K
        try simp only [Act.put, List.setIfInBounds_toArray, List.set_cons_zero, List.set_cons_succ]
        refine wpAnyH_take (i := 7) (oi := { dst := some 61, op := Op.binOp BinOp.neq 3 (Operand.tmp 55) (Operand.tmp 60) 3, type := 4, pos := "law.go:61", after := #[{ on := 1, ground := Ground.data }, { on := 6, ground := Ground.data }], guard := none }) (v := ?_) rfl (by kernel_rfl) (by kernel_rfl) (by kernel_rfl) (fun _ _ _ h => h) (Or.inl ⟨by rfl, ?hy8⟩) hS7 ?_
        case hy8 => (intro V hSw; (try dsimp only at hSw); clear hSw; go_simp; try with_reducible rfl)
        try simp only [Act.put, List.setIfInBounds_toArray, List.set_cons_zero, List.set_cons_succ]
        refine wpAnyH_take (i := 8) (oi := { dst := some 62, op := Op.move (Operand.tmp 61), type := 4, pos := "law.go:61", after := #[{ on := 7, ground := Ground.data }, { on := 1, ground := Ground.chain }], guard := none }) (v := ?_) rfl (by kernel_rfl) (by kernel_rfl) (by kernel_rfl) (fun _ _ _ h => h) (Or.inl ⟨by rfl, ?hy9⟩) hS7 ?_
        case hy9 => (intro V hSw; (try dsimp only at hSw); clear hSw; go_simp; try with_reducible rfl)
        try simp only [Act.put, List.setIfInBounds_toArray, List.set_cons_zero, List.set_cons_succ]
        refine wpAnyH_take (i := 9) (oi := { dst := some 63, op := Op.move (Operand.tmp 7), type := 25, pos := "law.go:61", after := #[{ on := 8, ground := Ground.guard }], guard := some (8, false) }) (v := ?_) rfl (by kernel_rfl) (by kernel_rfl) (by kernel_rfl) (fun _ _ _ h => h) (Or.inl ⟨by rfl, ?hy10⟩) hS7 ?_
        case hy10 => (intro V hSw; (try dsimp only at hSw); clear hSw; go_simp; try with_reducible rfl)
        try simp only [Act.put, List.setIfInBounds_toArray, List.set_cons_zero, List.set_cons_succ]
        refine wpAnyH_take (i := 11) (oi := { dst := some 65, op := Op.move (Operand.tmp 8), type := 26, pos := "law.go:61", after := #[{ on := 8, ground := Ground.guard }], guard := some (8, false) }) (v := ?_) rfl (by kernel_rfl) (by kernel_rfl) (by kernel_rfl) (fun _ _ _ h => h) (Or.inl ⟨by rfl, ?hy11⟩) hS7 ?_
        case hy11 => (intro V hSw; (try dsimp only at hSw); clear hSw; go_simp; try with_reducible rfl)
        try simp only [Act.put, List.setIfInBounds_toArray, List.set_cons_zero, List.set_cons_succ]
        refine wpAnyH_ready (rs := [10]) (by kernel_rfl) (by simp) (AllReadyH.cons rfl (fun K hK => ?_) AllReadyH.nil)
        go_simp
        refine (ML0.out _ hS7.out).mono ?_
        rintro e wv12 ⟨rfl, hv12⟩
        have hS12 := Lib.hid (hS7.out.trans (hv12.mono hS7.out.size))
        clear hv12
        refine hK.out _ _ hS12 (fun _ => ?_)
        clear hK K
        try simp only [Act.put, List.setIfInBounds_toArray, List.set_cons_zero, List.set_cons_succ]
        refine wpAnyH_ready (rs := [12]) (by kernel_rfl) (by simp) (AllReadyH.cons rfl (fun K hK => ?_) AllReadyH.nil)
        go_simp
        refine (XL0.out _ hS12.out).mono ?_
        rintro e wv13 ⟨rfl, hv13⟩
        have hS13 := Lib.hid (hS12.out.trans (hv13.mono hS12.out.size))
        clear hv13
        refine hK.out _ _ hS13 (fun _ => ?_)
        clear hK K
        try simp only [Act.put, List.setIfInBounds_toArray, List.set_cons_zero, List.set_cons_succ]
        refine wpAnyH_take (i := 13) (oi := { dst := some 67, op := Op.binOp BinOp.neq 3 (Operand.tmp 64) (Operand.tmp 66) 3, type := 4, pos := "law.go:61", after := #[{ on := 10, ground := Ground.data }, { on := 12, ground := Ground.data }, { on := 8, ground := Ground.guard }], guard := some (8, false) }) (v := ?_) rfl (by kernel_rfl) (by kernel_rfl) (by kernel_rfl) (fun _ _ _ h => h) (Or.inl ⟨by rfl, ?hy14⟩) hS13 ?_
        case hy14 => (intro V hSw; (try dsimp only at hSw); clear hSw; go_simp; try with_reducible rfl)
        try simp only [Act.put, List.setIfInBounds_toArray, List.set_cons_zero, List.set_cons_succ]
        refine wpAnyH_take (i := 14) (oi := { dst := some 68, op := Op.pick (Operand.tmp 62) (Operand.const (Value.bool true)) (Operand.tmp 67), type := 4, pos := "law.go:61", after := #[{ on := 8, ground := Ground.data }, { on := 13, ground := Ground.data }], guard := none }) (v := ?_) rfl (by kernel_rfl) (by kernel_rfl) (by kernel_rfl) (fun _ _ _ h => h) (Or.inl ⟨by rfl, ?hy15⟩) hS13 ?_
        case hy15 => (intro V hSw; (try dsimp only at hSw); clear hSw; go_simp; try with_reducible rfl)
        try simp only [Act.put, List.setIfInBounds_toArray, List.set_cons_zero, List.set_cons_succ]
        refine wpAnyH_done (by kernel_rfl) ?_ _
        have HDe := Lib.hid (show FillD w _ (xb + 1) mb xb most w.heap.size (w.heap.size + 1) (rm) (rx) from ⟨HMo.out.bel hS13.out, HX5.out.bel hS13.out, Heq.out, Hb5.out.trans (hS13.out.mono Hb5.out.size)⟩)
        have Hn1 := Lib.hid (blk_bels hS13.out Hms1.out)
        have Hn2 := Lib.hid (blk_bels hS13.out Hms2.out)
        clear x0 hS0
        go_wp2_with fail
        go_roundw
        case rel => exact ⟨k + 1, by omega, by go_num, rm, rx, HDe.out, by rw [Htk.out, fillT_snoc, ← Hrm.out, fillL, ← lastN_ops, ← Hls.out, ← He0.out, if_neg hz0], by omega, by rw [← Hls.out]; omega, Hn1.out, Hn2.out⟩
        case measure => simp [intOf]; omega
    · obtain rfl : n = k := by omega
      go_wp2_with fail
      go_ret3
      exact Lib.hid ⟨mb, xb, xb + 1, rm, rx, rfl, HD.out, by have := Hrm.out; rwa [Hn.out, List.take_length] at this, Hms1.out, Hms2.out, Hmb.out.symm⟩
end Go.Proofs.Ytbnodgoccmhjkaa.Tithe
