/- The document's plan of a level: walked. -/
import Derived.Test.YtcmndnglmpkpdaaDoorPickSame
namespace Go.Proofs.YtcmndnglmpkpdaaDoor.Tithe
open Go.RowKit Go.Sort Go.Shelf
set_option linter.unusedVariables false
set_option linter.unusedSimpArgs false
set_option maxRecDepth 100000
theorem drew_blk {W : World} {b : Nat} {x : Obj} (h : W.heap[b]? = some x) : W.drew.heap[b]? = some x := h
theorem planInfo2 : (Tryd.prog.info? 38).map (·.size) = some 5 := by kernel_rfl
theorem set4s2 {W : World} {pb n ub i lc : Nat} {la : Option Addr} {up : ByteArray} (h : W.heap[pb]? = some (.cells #[.int .i64 n, .int .i64 ((n : Int) + 1), .slice (some ⟨ub, 0, none⟩) 1 1, .slice la i lc, .string up] 38 (0, 0))) (up' : ByteArray) : (W.setCell ⟨pb, 4, none⟩ (.string up')).heap[pb]? = some (.cells #[.int .i64 n, .int .i64 ((n : Int) + 1), .slice (some ⟨ub, 0, none⟩) 1 1, .slice la i lc, .string up'] 38 (0, 0)) := (blk_set h).trans rfl
theorem plan_end2 {w W : World} {pb rb n ub i lc : Nat} {base : Nat} {la : Option Addr} {up' : ByteArray} {zs : List Int} {zz : Int} (hb : Below w.heap.size w W) (hp : W.heap[pb]? = some (.cells #[.int .i64 n, .int .i64 ((n : Int) + 1), .slice (some ⟨ub, 0, none⟩) 1 1, .slice la i lc, .string up'] 38 (0, 0))) (hr : W.heap[rb]? = some (.cells #[.int .i64 0, .int .i64 0, .slice none 0 0, .slice none 0 0, .string ⟨#[]⟩] 38 (0, 0)))
    (hown : OwnZ W base (.slice la i lc) zs) (hu : Uz W ub zz) (hw : w.heap.size ≤ rb) (hrb : rb < base) (hne : ub ≠ rb) :
    (((((W.setCell ⟨rb, 0, none⟩ (.int .i64 n)).setCell ⟨rb, 1, none⟩ (.int .i64 ((n : Int) + 1))).setCell ⟨rb, 2, none⟩ (.slice (some ⟨ub, 0, none⟩) 1 1)).setCell ⟨rb, 3, none⟩ (.slice la i lc)).setCell ⟨rb, 4, none⟩ (.string up')).heap[rb]? = some (.cells #[.int .i64 n, .int .i64 ((n : Int) + 1), .slice (some ⟨ub, 0, none⟩) 1 1, .slice la i lc, .string up'] 38 (0, 0)) ∧ Uz (((((W.setCell ⟨rb, 0, none⟩ (.int .i64 n)).setCell ⟨rb, 1, none⟩ (.int .i64 ((n : Int) + 1))).setCell ⟨rb, 2, none⟩ (.slice (some ⟨ub, 0, none⟩) 1 1)).setCell ⟨rb, 3, none⟩ (.slice la i lc)).setCell ⟨rb, 4, none⟩ (.string up')) ub zz ∧ OwnZ (((((W.setCell ⟨rb, 0, none⟩ (.int .i64 n)).setCell ⟨rb, 1, none⟩ (.int .i64 ((n : Int) + 1))).setCell ⟨rb, 2, none⟩ (.slice (some ⟨ub, 0, none⟩) 1 1)).setCell ⟨rb, 3, none⟩ (.slice la i lc)).setCell ⟨rb, 4, none⟩ (.string up')) base (.slice la i lc) zs ∧ Below w.heap.size w (((((W.setCell ⟨rb, 0, none⟩ (.int .i64 n)).setCell ⟨rb, 1, none⟩ (.int .i64 ((n : Int) + 1))).setCell ⟨rb, 2, none⟩ (.slice (some ⟨ub, 0, none⟩) 1 1)).setCell ⟨rb, 3, none⟩ (.slice la i lc)).setCell ⟨rb, 4, none⟩ (.string up')) := by
  refine ⟨?_, uz_set (uz_set (uz_set (uz_set (uz_set hu hne) hne) hne) hne) hne, own_set (own_set (own_set (own_set (own_set hown hrb) hrb) hrb) hrb) hrb, ((((hb.setCell (p := ⟨rb, 0, none⟩) hw _).setCell (p := ⟨rb, 1, none⟩) hw _).setCell (p := ⟨rb, 2, none⟩) hw _).setCell (p := ⟨rb, 3, none⟩) hw _).setCell (p := ⟨rb, 4, none⟩) hw _⟩
  exact (blk_set (blk_set (blk_set (blk_set (blk_set hr))))).trans rfl
attribute [local go_sem] Oper.semAt_some
set_option maxHeartbeats 6400000 in
theorem rof_any (X : Vn) (xb n : Nat) (w : World) (hxb : w.heap[xb]? = some (.cells X.cells 68 (0, 0))) (hX : IsVn w X) (hn : n < 3) (hlen : 0 < (X.l n).length) (hl : ∀ n, n < 4 → (X.l n).length ≤ 100000) (hgd : ∀ n, n < 4 → ∀ r ∈ X.l n, gdM r.1) :
    Calls Tryd.prog 25 #[.pointer (some ⟨xb, 0, none⟩), .int .i64 n] w fun e w' => Hid (∃ cs, e = .returned (.agg cs) ∧ PlanIs w' w.heap.size cs (planP X.l n) ∧ Below w.heap.size w w') := by
  have HAl : Hid (Below w.heap.size w (w.alloc (.cells #[.int .i64 0, .int .i64 0, .slice none 0 0, .slice none 0 0, .string ⟨#[]⟩] 38))) := Lib.hid ((Below.refl _ _).alloc (Nat.le_refl _) _)
  have HR : Hid ((w.alloc (.cells #[.int .i64 0, .int .i64 0, .slice none 0 0, .slice none 0 0, .string ⟨#[]⟩] 38)).heap[w.heap.size]? = some (.cells #[.int .i64 0, .int .i64 0, .slice none 0 0, .slice none 0 0, .string ⟨#[]⟩] 38 (0, 0))) := Lib.hid (blk_of_alloc _ _)
  have hgdm : gdM (planM X.l n).1 := by
    unfold planM
    rw [List.getD_eq_getElem?_getD]
    cases hq : (X.l n)[if n = 0 then (X.l 0).length - 1 else 0]? with
    | none => exact ⟨Nat.zero_le _, Nat.zero_le _, Nat.zero_le _⟩
    | some r => exact hgd n (by omega) r (List.mem_of_getElem? hq)
  have HOv := Lib.hid (fun (A : World) (h1 : A.heap[xb]? = some (.cells X.cells 68 (0, 0))) (h2 : IsVn A X) => rover_any X xb ((n : Int) + 1) (planM X.l n).1.a.u (planM X.l n).1.b.u A h1 h2 hgdm.2.1 hgdm.2.2 hl hgd)
  have HXw := Lib.hid hX
  have HX1 := Lib.hid (hX.below HAl.out)
  have Hxw := Lib.hid hxb
  have Hxb := Lib.hid (blk_bels HAl.out hxb)
  have hxw : xb < w.heap.size := blk_lt hxb
  clear hX hl hgd hgdm hxb
  go_enter Tryd.func25, Tryd.ntmps25
  go_upto_region 1 with fail
  generalize w.alloc (.cells #[.int .i64 0, .int .i64 0, .slice none 0 0, .slice none 0 0, .string ⟨#[]⟩] 38) = W1 at *
  have hmr := HX1.out n (by omega)
  obtain ⟨sa, sc, hsv⟩ := isMr_slice hmr
  obtain ⟨m, hm⟩ : ∃ m, m + 1 = (X.l n).length := ⟨(X.l n).length - 1, by omega⟩
  rw [← hm] at hsv
  have hcn : W1.cell? ⟨xb, n, none⟩ = some (.slice sa (m + 1) sc) := (cell_of_blk Hxb.out n).trans (by rw [vn_cell X (by omega), hsv])
  rw [hsv] at hmr
  obtain ⟨-, hmc, hmm, hmx⟩ := hmr.1.at
  obtain ⟨b3, off3, rfl, hcell3⟩ := hmx (by omega)
  have hni : (n : Int) < 3 := by omega
  have hni4 : (n : Int) < 4 := by omega
  have Hrr := Lib.hid hmr.2
  have Hm := Lib.hid hm
  obtain ⟨r0, hr0⟩ : ∃ r, (X.l n)[0]? = some r := ⟨_, List.getElem?_eq_getElem (by omega)⟩
  obtain ⟨rl, hrl2⟩ : ∃ r, (X.l n)[m]? = some r := ⟨_, List.getElem?_eq_getElem (by omega)⟩
  obtain ⟨d0, d1, d2, d3, d4, d5, d6, d7, d8⟩ := IsMr.row hcell3 hr0
  have Hlast := Lib.hid (fun (A : World) (hA : Below W1.heap.size W1 A) => IsMr.row (w := A) (fun i x hi j y hj => (hA.cell (block_lt_of_cell (hcell3 i x hi j y hj))).trans (hcell3 i x hi j y hj)) hrl2)
  have hb31 : b3 < W1.heap.size := block_lt_of_cell d0
  have hrr0 := Hrr.out r0 (List.mem_of_getElem? hr0)
  have hrrl := Hrr.out rl (List.mem_of_getElem? hrl2)
  have Hr0 := Lib.hid hr0
  have Hrl := Lib.hid hrl2
  obtain ⟨⟨mz, mn, a, b, refs⟩, vr⟩ := r0
  obtain ⟨⟨lz, ln, lx, ly, lrefs⟩, vl⟩ := rl
  dsimp only at d0 d1 d2 d3 d4 d5 d6 d7 d8 hrr0 hrrl
  obtain ⟨ra, rc, hrv, -, -, -⟩ := hrr0
  obtain ⟨xa, xc, hlv, -, -, -⟩ := hrrl
  obtain ⟨rn, hrn⟩ : ∃ rn, rn = refs.length := ⟨_, rfl⟩
  obtain ⟨xn, hxn⟩ : ∃ xn, xn = lrefs.length := ⟨_, rfl⟩
  rw [← hrn] at hrv
  rw [← hxn] at hlv
  subst hrv hlv
  rw [Nat.zero_mul, Nat.add_zero] at d0 d1 d2 d3 d4 d5 d6 d7 d8
  have HA1 := Lib.hid ((Below.refl W1.heap.size W1).alloc (Nat.le_refl _) (.cells #[.int .i64 mz, .int .i64 mn, .string a.u, .int .i64 a.s, .int .i64 a.k, .string b.u, .int .i64 b.s, .int .i64 b.k, .slice ra rn rc] 73))
  have HM := Lib.hid (blk_of_alloc W1 (.cells #[.int .i64 mz, .int .i64 mn, .string a.u, .int .i64 a.s, .int .i64 a.k, .string b.u, .int .i64 b.s, .int .i64 b.k, .slice ra rn rc] 73))
  obtain ⟨mb, hmb⟩ : ∃ mb, mb = W1.heap.size := ⟨_, rfl⟩
  have Hmb := Lib.hid hmb
  rw [← hmb] at HM
  have hrb : w.heap.size < W1.heap.size := blk_lt HR.out
  clear hr0 hrl2 hcell3 hmr hmx hrn hxn hm
  go_upto_if 18 with fail
  rw [← Hmb.out]
  generalize W1.alloc (.cells #[.int .i64 mz, .int .i64 mn, .string a.u, .int .i64 a.s, .int .i64 a.k, .string b.u, .int .i64 b.s, .int .i64 b.k, .slice ra rn rc] 73) = W2 at *
  have Hcn := Lib.hid hcn
  have Hsv := Lib.hid hsv
  clear hcn hsv d0 d1 d2 d3 d4 d5 d6 d7 d8
  go_cut [18] (fun tv wc => ∃ q, q = planM X.l n ∧ wc.heap[mb]? = some (.cells (mrC q).toArray 73 (0, 0)) ∧ Below W1.heap.size W1 wc)
  case first =>
    by_cases hn0 : n = 0
    · have hnz : ((n : Int) == 0) = true := by simp [hn0]
      obtain ⟨l0, l1, l2, l3, l4, l5, l6, l7, l8⟩ := Hlast.out W2 HA1.out
      dsimp only at l0 l1 l2 l3 l4 l5 l6 l7 l8
      have hc0 : W2.cell? ⟨xb, 0, none⟩ = some (.slice (some ⟨b3, off3, none⟩) (m + 1) sc) := by
        have h1 := Hcn.out
        rw [hn0] at h1
        exact (HA1.out.cell (p := ⟨xb, 0, none⟩) (by show xb < _; omega)).trans h1
      have hwm : IntKind.i64.wrap (m : Int) = (m : Int) := IntWalk.i64_in _ (by omega)
      have hmlt : (m : Int) < (m : Int) + 1 := by omega
      have hxlt : xb < mb := by omega
      have hb3lt : b3 < mb := by omega
      have HF := Lib.hid (drew_blk (set9g (V := W2) rfl HM.out (.int .i64 lz) (.int .i64 ln) (.string lx.u) (.int .i64 lx.s) (.int .i64 lx.k) (.string ly.u) (.int .i64 ly.s) (.int .i64 ly.k) (.slice xa xn xc)))
      have HB9 := Lib.hid (below9 (B := W1.heap.size) HA1.out (Nat.le_of_eq Hmb.out.symm) (.int .i64 lz) (.int .i64 ln) (.string lx.u) (.int .i64 lx.s) (.int .i64 lx.k) (.string ly.u) (.int .i64 ly.s) (.int .i64 ly.k) (.slice xa xn xc)).drew
      have Hq : Hid ((⟨lz, ln, lx, ly, lrefs⟩, .slice xa xn xc) = planM X.l n) := Lib.hid (by
        unfold planM
        rw [if_pos hn0, List.getD_eq_getElem?_getD]
        have h1 := Hrl.out
        have h2 := Hm.out
        subst hn0
        rw [show (X.l 0).length - 1 = m by omega, h1]; rfl)
      rw [hnz]
      clear hn0 hnz hmb
      go_wp2_with fail
      refine wp_region_held_drew (S := fun V => Hid (Below mb W2 V)) (by kernel_rfl) (Lib.hid ((Below.refl _ _).drew)) (fun hS0 => ?_)
      refine wpAnyH_take (i := 0) (oi := { dst := some 19, op := Op.move (Operand.tmp 0), type := 27, pos := "ref.go:19", after := #[], guard := none }) (v := ?_) rfl (by kernel_rfl) (by kernel_rfl) (by kernel_rfl) (fun _ _ _ h => h) (Or.inl ⟨by rfl, ?hy1⟩) hS0 ?_
      case hy1 => (intro V hSw; (try dsimp only at hSw); clear hSw; go_simp; try with_reducible rfl)
      try simp only [Act.put, List.setIfInBounds_toArray, List.set_cons_zero, List.set_cons_succ]
      refine wpAnyH_take (i := 1) (oi := { dst := some 20, op := Op.nilCheck (Operand.tmp 19), type := 0, pos := "ref.go:19", after := #[{ on := 0, ground := Ground.data }], guard := none }) (v := ?_) rfl (by kernel_rfl) (by kernel_rfl) (by kernel_rfl) (fun _ _ _ h => h) (Or.inl ⟨by rfl, ?hy2⟩) hS0 ?_
      case hy2 => (intro V hSw; (try dsimp only at hSw); clear hSw; go_simp; try with_reducible rfl)
      try simp only [Act.put, List.setIfInBounds_toArray, List.set_cons_zero, List.set_cons_succ]
      refine wpAnyH_take (i := 2) (oi := { dst := some 21, op := Op.fieldAddr 68 (Operand.tmp 20) 0, type := 0, pos := "ref.go:19", after := #[{ on := 1, ground := Ground.data }], guard := none }) (v := ?_) rfl (by kernel_rfl) (by kernel_rfl) (by kernel_rfl) (fun _ _ _ h => h) (Or.inl ⟨by rfl, ?hy3⟩) hS0 ?_
      case hy3 => (intro V hSw; (try dsimp only at hSw); clear hSw; go_simp; try with_reducible rfl)
      try simp only [Act.put, List.setIfInBounds_toArray, List.set_cons_zero, List.set_cons_succ]
      refine wpAnyH_take (i := 3) (oi := { dst := some 22, op := Op.indexAddr 66 (Operand.tmp 21) (Operand.const (Value.int IntKind.i64 0)), type := 0, pos := "ref.go:19", after := #[{ on := 2, ground := Ground.data }], guard := none }) (v := ?_) rfl (by kernel_rfl) (by kernel_rfl) (by kernel_rfl) (fun _ _ _ h => h) (Or.inl ⟨by rfl, ?hy4⟩) hS0 ?_
      case hy4 => (intro V hSw; (try dsimp only at hSw); clear hSw; go_simp; try with_reducible rfl)
      try simp only [Act.put, List.setIfInBounds_toArray, List.set_cons_zero, List.set_cons_succ]
      refine wpAnyH_take (i := 4) (oi := { dst := some 23, op := Op.load 65 (Operand.tmp 22), type := 65, pos := "ref.go:19", after := #[{ on := 3, ground := Ground.data }], guard := none }) (v := ?_) rfl (by kernel_rfl) (by kernel_rfl) (by kernel_rfl) (fun _ _ _ h => h) (Or.inl ⟨by rfl, ?hy5⟩) hS0 ?_
      case hy5 => (intro V hSw; (try dsimp only at hSw); have q0 := grow_cell hSw.out hxlt hc0; have q1 := grow_cell hSw.out hb3lt l0; have q2 := grow_cell hSw.out hb3lt l1; have q3 := grow_cell hSw.out hb3lt l2; have q4 := grow_cell hSw.out hb3lt l3; have q5 := grow_cell hSw.out hb3lt l4; have q6 := grow_cell hSw.out hb3lt l5; have q7 := grow_cell hSw.out hb3lt l6; have q8 := grow_cell hSw.out hb3lt l7; have q9 := grow_cell hSw.out hb3lt l8; clear hSw; go_simp; try with_reducible rfl)
      try simp only [Act.put, List.setIfInBounds_toArray, List.set_cons_zero, List.set_cons_succ]
      refine wpAnyH_take (i := 5) (oi := { dst := some 24, op := Op.move (Operand.tmp 0), type := 27, pos := "ref.go:19", after := #[], guard := none }) (v := ?_) rfl (by kernel_rfl) (by kernel_rfl) (by kernel_rfl) (fun _ _ _ h => h) (Or.inl ⟨by rfl, ?hy6⟩) hS0 ?_
      case hy6 => (intro V hSw; (try dsimp only at hSw); clear hSw; go_simp; try with_reducible rfl)
      try simp only [Act.put, List.setIfInBounds_toArray, List.set_cons_zero, List.set_cons_succ]
      refine wpAnyH_take (i := 6) (oi := { dst := some 25, op := Op.nilCheck (Operand.tmp 24), type := 0, pos := "ref.go:19", after := #[{ on := 5, ground := Ground.data }], guard := none }) (v := ?_) rfl (by kernel_rfl) (by kernel_rfl) (by kernel_rfl) (fun _ _ _ h => h) (Or.inl ⟨by rfl, ?hy7⟩) hS0 ?_
      case hy7 => (intro V hSw; (try dsimp only at hSw); clear hSw; go_simp; try with_reducible rfl)
      try simp only [Act.put, List.setIfInBounds_toArray, List.set_cons_zero, List.set_cons_succ]
      refine wpAnyH_take (i := 7) (oi := { dst := some 26, op := Op.fieldAddr 68 (Operand.tmp 25) 0, type := 0, pos := "ref.go:19", after := #[{ on := 6, ground := Ground.data }], guard := none }) (v := ?_) rfl (by kernel_rfl) (by kernel_rfl) (by kernel_rfl) (fun _ _ _ h => h) (Or.inl ⟨by rfl, ?hy8⟩) hS0 ?_
      case hy8 => (intro V hSw; (try dsimp only at hSw); clear hSw; go_simp; try with_reducible rfl)
      try simp only [Act.put, List.setIfInBounds_toArray, List.set_cons_zero, List.set_cons_succ]
      refine wpAnyH_take (i := 8) (oi := { dst := some 27, op := Op.indexAddr 66 (Operand.tmp 26) (Operand.const (Value.int IntKind.i64 0)), type := 0, pos := "ref.go:19", after := #[{ on := 7, ground := Ground.data }], guard := none }) (v := ?_) rfl (by kernel_rfl) (by kernel_rfl) (by kernel_rfl) (fun _ _ _ h => h) (Or.inl ⟨by rfl, ?hy9⟩) hS0 ?_
      case hy9 => (intro V hSw; (try dsimp only at hSw); clear hSw; go_simp; try with_reducible rfl)
      try simp only [Act.put, List.setIfInBounds_toArray, List.set_cons_zero, List.set_cons_succ]
      refine wpAnyH_take (i := 9) (oi := { dst := some 28, op := Op.load 65 (Operand.tmp 27), type := 65, pos := "ref.go:19", after := #[{ on := 8, ground := Ground.data }], guard := none }) (v := ?_) rfl (by kernel_rfl) (by kernel_rfl) (by kernel_rfl) (fun _ _ _ h => h) (Or.inl ⟨by rfl, ?hy10⟩) hS0 ?_
      case hy10 => (intro V hSw; (try dsimp only at hSw); have q0 := grow_cell hSw.out hxlt hc0; have q1 := grow_cell hSw.out hb3lt l0; have q2 := grow_cell hSw.out hb3lt l1; have q3 := grow_cell hSw.out hb3lt l2; have q4 := grow_cell hSw.out hb3lt l3; have q5 := grow_cell hSw.out hb3lt l4; have q6 := grow_cell hSw.out hb3lt l5; have q7 := grow_cell hSw.out hb3lt l6; have q8 := grow_cell hSw.out hb3lt l7; have q9 := grow_cell hSw.out hb3lt l8; clear hSw; go_simp; try with_reducible rfl)
      try simp only [Act.put, List.setIfInBounds_toArray, List.set_cons_zero, List.set_cons_succ]
      refine wpAnyH_ready (rs := [10]) (by kernel_rfl) (by simp) (AllReadyH.cons rfl (fun K hK => ?_) AllReadyH.nil)
      go_simp
      refine hK.out _ _ hS0 (fun _ => ?_)
      clear hK K
      try simp only [Act.put, List.setIfInBounds_toArray, List.set_cons_zero, List.set_cons_succ]
      refine wpAnyH_take (i := 11) (oi := { dst := some 30, op := Op.binOp BinOp.sub 3 (Operand.tmp 29) (Operand.const (Value.int IntKind.i64 1)) 3, type := 3, pos := "ref.go:19", after := #[{ on := 10, ground := Ground.data }], guard := none }) (v := ?_) rfl (by kernel_rfl) (by kernel_rfl) (by kernel_rfl) (fun _ _ _ h => h) (Or.inl ⟨by rfl, ?hy11⟩) hS0 ?_
      case hy11 => (intro V hSw; (try dsimp only at hSw); clear hSw; go_simp; try with_reducible rfl)
      try simp only [Act.put, List.setIfInBounds_toArray, List.set_cons_zero, List.set_cons_succ]
      refine wpAnyH_take (i := 12) (oi := { dst := some 31, op := Op.indexAddr 65 (Operand.tmp 23) (Operand.tmp 30), type := 0, pos := "ref.go:19", after := #[{ on := 4, ground := Ground.data }, { on := 11, ground := Ground.data }], guard := none }) (v := ?_) rfl (by kernel_rfl) (by kernel_rfl) (by kernel_rfl) (fun _ _ _ h => h) (Or.inl ⟨by rfl, ?hy12⟩) hS0 ?_
      case hy12 => (intro V hSw; (try dsimp only at hSw); clear hSw; go_simp; try with_reducible rfl)
      try simp only [Act.put, List.setIfInBounds_toArray, List.set_cons_zero, List.set_cons_succ]
      refine wpAnyH_take (i := 13) (oi := { dst := some 32, op := Op.load 73 (Operand.tmp 31), type := 73, pos := "ref.go:19", after := #[{ on := 12, ground := Ground.data }], guard := none }) (v := ?_) rfl (by kernel_rfl) (by kernel_rfl) (by kernel_rfl) (fun _ _ _ h => h) (Or.inl ⟨by rfl, ?hy13⟩) hS0 ?_
      case hy13 => (intro V hSw; (try dsimp only at hSw); have q0 := grow_cell hSw.out hxlt hc0; have q1 := grow_cell hSw.out hb3lt l0; have q2 := grow_cell hSw.out hb3lt l1; have q3 := grow_cell hSw.out hb3lt l2; have q4 := grow_cell hSw.out hb3lt l3; have q5 := grow_cell hSw.out hb3lt l4; have q6 := grow_cell hSw.out hb3lt l5; have q7 := grow_cell hSw.out hb3lt l6; have q8 := grow_cell hSw.out hb3lt l7; have q9 := grow_cell hSw.out hb3lt l8; clear hSw; go_simp; try with_reducible rfl)
      try simp only [Act.put, List.setIfInBounds_toArray, List.set_cons_zero, List.set_cons_succ]
      refine wpAnyH_ready (rs := [14]) (by kernel_rfl) (by simp) (AllReadyH.cons rfl (fun K hK => ?_) AllReadyH.nil)
      have hpc := fun j => cell_of_blk HM.out j
      have hpz := fun j => frozen_of_blk HM.out j
      go_simp
      clear hpc hpz
      refine hK.out _ _ (Lib.hid (below9 (Below.refl _ _) (Nat.le_refl _) _ _ _ _ _ _ _ _ _).drew) (fun _ => ?_)
      clear hK K
      try simp only [Act.put, List.setIfInBounds_toArray, List.set_cons_zero, List.set_cons_succ]
      refine wpAnyH_done (by kernel_rfl) ?_ _
      go_wp2_with fail
      go_meet
      case rel => exact ⟨_, Hq.out, HF.out, HB9.out⟩
    · have hnz : ((n : Int) == 0) = false := by simp; omega
      have Hq : Hid ((⟨mz, mn, a, b, refs⟩, .slice ra rn rc) = planM X.l n) := Lib.hid (by
        unfold planM
        rw [if_neg hn0, List.getD_eq_getElem?_getD, Hr0.out]; rfl)
      clear hmb
      go_wp2_with fail
      go_meet
      case rel => exact ⟨_, Hq.out, HM.out, HA1.out⟩
  case rest =>
    obtain ⟨q, hq, hmq, hb2⟩ := hcut
    obtain ⟨⟨mz, mn, a, b, refs⟩, vr⟩ := q
    rw [← hq] at HOv
    dsimp only at HOv
    have HPQ : Hid (((tabs X.l 4).filter (overB ((n : Int) + 1) a.u b.u)).map (·.2.1) = planO X.l n) := Lib.hid (by unfold planO; rw [← hq])
    have HqM := Lib.hid hq
    have hmbl : mb < wc.heap.size := blk_lt hmq
    have hbwc : Below w.heap.size w wc := HAl.out.trans (hb2.mono HAl.out.size)
    have Hmq := Lib.hid hmq
    have Hb2 := Lib.hid hb2
    have Hbwc := Lib.hid hbwc
    have Hxc := Lib.hid (blk_bels hbwc Hxw.out)
    have HXc := Lib.hid (HXw.out.below hbwc)
    have HRc := Lib.hid (blk_bels hb2 HR.out)
    have m2 := (cell_of_blk hmq 2).trans (show _ = some (.string a.u) from rfl)
    have m5 := (cell_of_blk hmq 5).trans (show _ = some (.string b.u) from rfl)
    clear hq hmq hb2 hbwc hmb
    go_wp2_with fail
    refine (HOv.out _ Hxc.out HXc.out).mono ?_
    rintro e wv ⟨x, yc, rws, rfl, his, hrw, hbv⟩
    obtain ⟨K, hK⟩ : ∃ K, K = rws.length := ⟨_, rfl⟩
    rw [← hK]
    have HK := Lib.hid hK
    have HKO : Hid (K = (planO X.l n).length) := Lib.hid (by rw [hK, ← HPQ.out, ← hrw, List.length_map])
    have Hrwp : Hid (rws.map (·.1) = planO X.l n) := Lib.hid (hrw.trans HPQ.out)
    have Hrows := Lib.hid his
    have hKc : K ≤ 9223372036854775807 := by have h1 := his.1.at.2.1; have h2 := his.1.at.2.2.1; omega
    have HRv := Lib.hid (blk_bels hbv HRc.out)
    have Hbwv := Lib.hid (Hbwc.out.trans (hbv.mono Hbwc.out.size))
    have hmv := blk_bels hbv Hmq.out
    have hrbl : w.heap.size < wv.heap.size := blk_lt HRv.out
    have m0 := (cell_of_blk hmv 0).trans (show _ = some (.int .i64 mz) from rfl)
    have HAA : Hid (Below wv.heap.size wv ((wv.alloc (.cells #[.int .i64 mz] 3)).alloc (.cells #[.int .i64 n, .int .i64 ((n : Int) + 1), .slice (some ⟨wv.heap.size, 0, none⟩) 1 1, .slice none 0 0, .string ⟨#[]⟩] 38))) := Lib.hid (((Below.refl _ _).alloc (Nat.le_refl _) _).alloc (by simp) _)
    have HUzb : Hid (((wv.alloc (.cells #[.int .i64 mz] 3)).alloc (.cells #[.int .i64 n, .int .i64 ((n : Int) + 1), .slice (some ⟨wv.heap.size, 0, none⟩) 1 1, .slice none 0 0, .string ⟨#[]⟩] 38)).heap[wv.heap.size]? = some (.cells #[.int .i64 mz] 3 (0, 0))) := Lib.hid (blk_old (blk_of_alloc _ _) _)
    have HPb : Hid (((wv.alloc (.cells #[.int .i64 mz] 3)).alloc (.cells #[.int .i64 n, .int .i64 ((n : Int) + 1), .slice (some ⟨wv.heap.size, 0, none⟩) 1 1, .slice none 0 0, .string ⟨#[]⟩] 38)).heap[wv.heap.size + 1]? = some (.cells #[.int .i64 n, .int .i64 ((n : Int) + 1), .slice (some ⟨wv.heap.size, 0, none⟩) 1 1, .slice none 0 0, .string ⟨#[]⟩] 38 (0, 0))) := Lib.hid (blk_new (by simp only [World.size_alloc]) _)
    have HsA : Hid (((wv.alloc (.cells #[.int .i64 mz] 3)).alloc (.cells #[.int .i64 n, .int .i64 ((n : Int) + 1), .slice (some ⟨wv.heap.size, 0, none⟩) 1 1, .slice none 0 0, .string ⟨#[]⟩] 38)).heap.size = wv.heap.size + 1 + 1) := Lib.hid (by simp only [World.size_alloc])
    obtain ⟨ub, hub⟩ : ∃ ub, ub = wv.heap.size := ⟨_, rfl⟩
    rw [← hub] at HUzb HPb HsA hrbl HAA
    have Hub := Lib.hid hub
    clear hK hrw hbv hmv hub m2 m5 his
    go_upto_region 6 with fail
    rw [← Hub.out]
    generalize (wv.alloc (.cells #[.int .i64 mz] 3)).alloc (.cells #[.int .i64 n, .int .i64 ((n : Int) + 1), .slice (some ⟨ub, 0, none⟩) 1 1, .slice none 0 0, .string ⟨#[]⟩] 38) = W5 at *
    clear m0
    obtain ⟨pb, hpbE⟩ : ∃ pb, pb = ub + 1 := ⟨_, rfl⟩
    rw [← hpbE] at HPb ⊢
    have hpbb : pb < W5.heap.size := by have := HsA.out; omega
    have hubpb : ub < pb := by omega
    have hrpb : w.heap.size < pb := by omega
    have HUz5 : Hid (Uz W5 ub mz) := Lib.hid ⟨HUzb.out⟩
    have Hb5 := Lib.hid (Hbwv.out.trans (HAA.out.mono (by rw [Hub.out]; exact Hbwv.out.size)))
    have HR5 := Lib.hid ((HAA.out.block _ hrbl).trans HRv.out)
    have HRows : Hid (∀ A : World, Below pb W5 A → IsMr A (.slice x K yc) rws) := Lib.hid (fun A hA => by
      have h1 := HAA.out.trans (hA.mono (Nat.le_of_lt hubpb))
      rw [Hub.out] at h1
      have h2 := Hrows.out.below h1
      rw [← HK.out] at h2
      exact h2)
    clear hpbE
    go_wp2_with fail
    go_loopw [8] (fun iv wr => ∃ i : Nat, i ≤ K ∧ i ≤ 3 ∧ iv = .int .i64 i ∧ ∃ la lc, wr.heap[pb]? = some (.cells #[.int .i64 n, .int .i64 ((n : Int) + 1), .slice (some ⟨ub, 0, none⟩) 1 1, .slice la i lc, .string ⟨#[]⟩] 38 (0, 0)) ∧ OwnZ wr W5.heap.size (.slice la i lc) (((planO X.l n).take i).map (·.z)) ∧ Below pb W5 wr ∧ W5.heap.size ≤ wr.heap.size) (fun iv _ => K - (intOf iv).toNat)
    case atStart => exact ⟨0, Nat.zero_le _, Nat.zero_le _, rfl, none, 0, HPb.out, World.ownsRow_nil _ _ _ _, Below.refl _ _, Nat.le_refl _⟩
    case round =>
      obtain ⟨wr0, rfl⟩ : ∃ wr0 : World, wr0 = wr := ⟨_, rfl⟩
      obtain ⟨i, hiK, hi3, rfl, la, lc, hpb, hown, hb5r, hsr⟩ := hrel
      have Hpb := Lib.hid hpb
      have Hown := Lib.hid hown
      have Hb5r := Lib.hid hb5r
      have Hsl := Lib.hid (HRows.out _ hb5r).1.at
      clear hpb hown hb5r
      by_cases hlt : i < K
      · have hdk : decide ((i : Int) < (K : Int)) = true := decide_eq_true (by omega)
        by_cases hi3e : i = 3
        · have hd3 : decide ((i : Int) < 3) = false := decide_eq_false (by omega)
          have Hik : Hid (i = min 3 K) := Lib.hid (by omega)
          clear hi3e
          have HRr : Hid (wr0.heap[w.heap.size]? = some (.cells #[.int .i64 0, .int .i64 0, .slice none 0 0, .slice none 0 0, .string ⟨#[]⟩] 38 (0, 0))) := Lib.hid ((Hb5r.out.block _ hrpb).trans HR5.out)
          have HUzr : Hid (Uz wr0 ub mz) := Lib.hid ⟨(Hb5r.out.block _ hubpb).trans HUz5.out.blk⟩
          have Hpt := Hpb
          have Hbwr : Hid (Below w.heap.size w wr0) := Lib.hid (Hb5.out.trans (Hb5r.out.mono (Nat.le_of_lt hrpb)))
          have Hi : Hid (i = min 3 (planO X.l n).length) := Lib.hid (by rw [← HKO.out]; exact Hik.out)
          clear Hik
          by_cases hK3 : K ≤ 3
          · have dk1 : decide ((3 : Int) < (K : Int)) = false := decide_eq_false (by omega)
            have HUpE : Hid (upP (planO X.l n) = ⟨#[]⟩) := Lib.hid (by unfold upP; rw [if_pos (by rw [← HKO.out]; exact hK3)])
            have t0 := (cell_of_blk HRr.out 0).trans (show _ = some (.int .i64 0) from rfl)
            have t1 := (cell_of_blk HRr.out 1).trans (show _ = some (.int .i64 0) from rfl)
            have t2 := (cell_of_blk HRr.out 2).trans (show _ = some (.slice none 0 0) from rfl)
            have t3 := (cell_of_blk HRr.out 3).trans (show _ = some (.slice none 0 0) from rfl)
            have t4 := (cell_of_blk HRr.out 4).trans (show _ = some (.string ⟨#[]⟩) from rfl)
            have tz := fun j => frozen_of_blk HRr.out j
            have s0 := (cell_of_blk Hpt.out 0).trans (show _ = some (.int .i64 n) from rfl)
            have s1 := (cell_of_blk Hpt.out 1).trans (show _ = some (.int .i64 ((n : Int) + 1)) from rfl)
            have s2 := (cell_of_blk Hpt.out 2).trans (show _ = some (.slice (some ⟨ub, 0, none⟩) 1 1) from rfl)
            have s3 := (cell_of_blk Hpt.out 3).trans (show _ = some (.slice la i lc) from rfl)
            have s4 := (cell_of_blk Hpt.out 4).trans (show _ = some (.string ⟨#[]⟩) from rfl)
            have sz := fun j => frozen_of_blk Hpt.out j
            skip
            have HF := Lib.hid (plan_end2 Hbwr.out Hpt.out HRr.out Hown.out HUzr.out (Nat.le_refl _) (by omega) (by omega))
            go_wp2_with fail
            refine bodyPost_ret (v := .agg #[.int .i64 n, .int .i64 ((n : Int) + 1), .slice (some ⟨ub, 0, none⟩) 1 1, .slice la i lc, .string ⟨#[]⟩]) ?_ rfl ?_
            · exact results_cell_row Tryd.results25 _ _ w.heap.size 38 _ (0, 0) _ rfl HF.out.1 Tryd.underlying38 rfl planInfo2
            · exact Lib.hid (planIs_mk (by rw [← HqM.out]; exact HF.out.2.1) HF.out.2.2.1 Hi.out rfl HUpE.out HF.out.2.2.2 (by omega) (by omega))
          · obtain ⟨-, -, -, hx9⟩ := Hsl.out
            obtain ⟨b9, off9, hx9e, hcell9⟩ := hx9 (by omega)
            subst hx9e
            obtain ⟨r9, hr9⟩ : ∃ r, rws[2]? = some r := ⟨_, List.getElem?_eq_getElem (by rw [← HK.out]; omega)⟩
            obtain ⟨e0, e1, e2, e3, e4, e5, e6, e7, e8⟩ := IsMr.row hcell9 hr9
            have hp9 : (planO X.l n)[2]? = some r9.1 := by rw [← Hrwp.out, List.getElem?_map, hr9]; rfl
            obtain ⟨up9, hup9⟩ : ∃ u, u = r9.1.b.u := ⟨_, rfl⟩
            rw [← hup9] at e5
            have HUpE : Hid (upP (planO X.l n) = up9) := Lib.hid (by
              unfold upP
              rw [if_neg (by rw [← HKO.out]; exact hK3), List.getD_eq_getElem?_getD, hp9, hup9]; rfl)
            have dk1 : decide ((3 : Int) < (K : Int)) = true := decide_eq_true (by omega)
            have hk2 : (2 : Int) < (K : Int) := by omega
            clear hcell9 hr9 hp9 hup9 hx9 e0 e1 e2 e3 e4 e6 e7 e8
            have t0 := (cell_of_blk HRr.out 0).trans (show _ = some (.int .i64 0) from rfl)
            have t1 := (cell_of_blk HRr.out 1).trans (show _ = some (.int .i64 0) from rfl)
            have t2 := (cell_of_blk HRr.out 2).trans (show _ = some (.slice none 0 0) from rfl)
            have t3 := (cell_of_blk HRr.out 3).trans (show _ = some (.slice none 0 0) from rfl)
            have t4 := (cell_of_blk HRr.out 4).trans (show _ = some (.string ⟨#[]⟩) from rfl)
            have tz := fun j => frozen_of_blk HRr.out j
            have s0 := (cell_of_blk Hpt.out 0).trans (show _ = some (.int .i64 n) from rfl)
            have s1 := (cell_of_blk Hpt.out 1).trans (show _ = some (.int .i64 ((n : Int) + 1)) from rfl)
            have s2 := (cell_of_blk Hpt.out 2).trans (show _ = some (.slice (some ⟨ub, 0, none⟩) 1 1) from rfl)
            have s3 := (cell_of_blk Hpt.out 3).trans (show _ = some (.slice la i lc) from rfl)
            have s4 := (cell_of_blk Hpt.out 4).trans (show _ = some (.string ⟨#[]⟩) from rfl)
            have sz := fun j => frozen_of_blk Hpt.out j
            skip
            have HF := Lib.hid (plan_end2 (Hbwr.out.setCell (p := ⟨pb, 4, none⟩) (Nat.le_of_lt hrpb) _) (set4s2 Hpt.out up9) (blk_set_far HRr.out (by omega)) (own_set Hown.out hpbb) (uz_set HUzr.out (by omega)) (Nat.le_refl _) (by omega) (by omega))
            go_wp2_with fail
            refine bodyPost_ret (v := .agg #[.int .i64 n, .int .i64 ((n : Int) + 1), .slice (some ⟨ub, 0, none⟩) 1 1, .slice la i lc, .string up9]) ?_ rfl ?_
            · exact results_cell_row Tryd.results25 _ _ w.heap.size 38 _ (0, 0) _ rfl HF.out.1 Tryd.underlying38 rfl planInfo2
            · exact Lib.hid (planIs_mk (by rw [← HqM.out]; exact HF.out.2.1) HF.out.2.2.1 Hi.out rfl HUpE.out HF.out.2.2.2 (by omega) (by omega))
        · have hd3 : decide ((i : Int) < 3) = true := decide_eq_true (by omega)
          have hiKz : (i : Int) < (K : Int) := by omega
          have hi1 : i + 1 ≤ 3 := by omega
          obtain ⟨-, -, -, hx7⟩ := Hrows.out.1.at
          obtain ⟨b7, off7, hx7e, hcell7⟩ := hx7 (by rw [← HK.out]; omega)
          subst hx7e
          obtain ⟨r7, hr7⟩ : ∃ r, rws[i]? = some r := ⟨_, List.getElem?_eq_getElem (by rw [← HK.out]; exact hlt)⟩
          obtain ⟨d0, -, -, -, -, -, -, -, -⟩ := IsMr.row hcell7 hr7
          have hpo : (planO X.l n)[i]? = some r7.1 := by rw [← Hrwp.out, List.getElem?_map, hr7]; rfl
          obtain ⟨kz, hkz⟩ : ∃ z, z = r7.1.z := ⟨_, rfl⟩
          rw [← hkz] at d0
          have Hpo := Lib.hid hpo
          have Hkz := Lib.hid hkz
          have hb7 : b7 < ub := by rw [Hub.out]; exact block_lt_of_cell d0
          have hbV : Below ub wv wr0.drew := (HAA.out.trans (Hb5r.out.mono (Nat.le_of_lt hubpb))).drew
          have d7 := grow_cell hbV hb7 d0
          have hb7p : b7 < pb := by omega
          have hpd := drew_blk Hpb.out
          have hownV := own_below Hown.out (Below.refl wr0.heap.size wr0).drew
          have Hb5V := Lib.hid Hb5r.out.drew
          have Hsr : Hid (W5.heap.size ≤ wr0.drew.heap.size) := Lib.hid hsr
          clear hcell7 hr7 hpo hkz hx7 d0 hbV hsr hi3e
          go_wp2_with fail
          refine wp_region_held_drew (S := fun V => Hid (Below pb wr0.drew V)) (by kernel_rfl) (Lib.hid (Below.refl _ _)) (fun hS0 => ?_)
          generalize wr0.drew = V0 at *
          obtain ⟨la2, lc2, w2, hrun, hown2, hg2⟩ := push_z V0 W5.heap.size la i lc _ kz hownV (by omega) Hsr.out
          have hlow : ∀ g, (Value.slice la i lc).ownBlock = some g → W5.heap.size ≤ g := fun g e => (hownV.lt g e).1
          have hAz : Below V0.heap.size V0 (V0.alloc (.cells #[.int .i64 kz] 3)) := (Below.refl _ _).alloc (Nat.le_refl _) _
          have hpV : pb < V0.heap.size := blk_lt hpd
          have hpb2 : w2.heap[pb]? = _ := (hg2.block pb (blk_lt (blk_bels hAz hpd)) (fun e => by have := hlow pb e.symm; omega)).trans (blk_bels hAz hpd)
          have hSA : Hid (Below pb V0 (V0.alloc (.cells #[.int .i64 kz] 3))) := Lib.hid (hAz.mono (Nat.le_of_lt hpV))
          have hB2 : Below pb V0 w2 := hSA.out.grown hg2 (Nat.le_trans (Nat.le_of_lt hpV) hAz.size) (fun g e => by have := hlow g e; omega)
          have hS2 := Lib.hid hB2
          have hS3 : Hid (Below pb V0 (w2.setCell ⟨pb, 3, none⟩ (.slice la2 (i + 1) lc2))) := Lib.hid (hB2.setCell (p := ⟨pb, 3, none⟩) (Nat.le_refl _) _)
          have HF : Hid ((w2.setCell ⟨pb, 3, none⟩ (.slice la2 (i + 1) lc2)).heap[pb]? = some (.cells #[.int .i64 n, .int .i64 ((n : Int) + 1), .slice (some ⟨ub, 0, none⟩) 1 1, .slice la2 (i + 1) lc2, .string ⟨#[]⟩] 38 (0, 0)) ∧ OwnZ (w2.setCell ⟨pb, 3, none⟩ (.slice la2 (i + 1) lc2)) W5.heap.size (.slice la2 (i + 1) lc2) (((planO X.l n).take (i + 1)).map (·.z)) ∧ Below pb W5 (w2.setCell ⟨pb, 3, none⟩ (.slice la2 (i + 1) lc2)) ∧ W5.heap.size ≤ (w2.setCell ⟨pb, 3, none⟩ (.slice la2 (i + 1) lc2)).heap.size) := by
            refine Lib.hid ⟨(blk_set hpb2).trans rfl, ?_, Hb5V.out.trans hS3.out, Nat.le_trans Hsr.out hS3.out.size⟩
            have e : ((planO X.l n).take (i + 1)).map (·.z) = ((planO X.l n).take i).map (·.z) ++ [kz] := by rw [List.take_add_one, Hpo.out, Hkz.out, List.map_append]; rfl
            rw [e]
            exact own_set hown2 hpbb
          clear hownV hown2 hg2 hlow hAz hB2
          refine wpAnyH_take (i := 0) (oi := { dst := some 60, op := Op.fieldAddr 38 (Operand.tmp 7) 3, type := 0, pos := "ref.go:24", after := #[], guard := none }) (v := ?_) rfl (by kernel_rfl) (by kernel_rfl) (by kernel_rfl) (fun _ _ _ h => h) (Or.inl ⟨by rfl, ?hy14⟩) hS0 ?_
          case hy14 => (intro V hSw; (try dsimp only at hSw); clear hSw; go_simp; try with_reducible rfl)
          try simp only [Act.put, List.setIfInBounds_toArray, List.set_cons_zero, List.set_cons_succ]
          refine wpAnyH_take (i := 2) (oi := { dst := some 62, op := Op.move (Operand.tmp 6), type := 65, pos := "ref.go:24", after := #[], guard := none }) (v := ?_) rfl (by kernel_rfl) (by kernel_rfl) (by kernel_rfl) (fun _ _ _ h => h) (Or.inl ⟨by rfl, ?hy15⟩) hS0 ?_
          case hy15 => (intro V hSw; (try dsimp only at hSw); clear hSw; go_simp; try with_reducible rfl)
          try simp only [Act.put, List.setIfInBounds_toArray, List.set_cons_zero, List.set_cons_succ]
          refine wpAnyH_take (i := 3) (oi := { dst := some 63, op := Op.move (Operand.tmp 8), type := 3, pos := "ref.go:24", after := #[], guard := none }) (v := ?_) rfl (by kernel_rfl) (by kernel_rfl) (by kernel_rfl) (fun _ _ _ h => h) (Or.inl ⟨by rfl, ?hy16⟩) hS0 ?_
          case hy16 => (intro V hSw; (try dsimp only at hSw); clear hSw; go_simp; try with_reducible rfl)
          try simp only [Act.put, List.setIfInBounds_toArray, List.set_cons_zero, List.set_cons_succ]
          refine wpAnyH_take (i := 4) (oi := { dst := some 64, op := Op.indexAddr 65 (Operand.tmp 62) (Operand.tmp 63), type := 0, pos := "ref.go:24", after := #[{ on := 2, ground := Ground.data }, { on := 3, ground := Ground.data }], guard := none }) (v := ?_) rfl (by kernel_rfl) (by kernel_rfl) (by kernel_rfl) (fun _ _ _ h => h) (Or.inl ⟨by rfl, ?hy17⟩) hS0 ?_
          case hy17 => (intro V hSw; (try dsimp only at hSw); clear hSw; go_simp; try with_reducible rfl)
          try simp only [Act.put, List.setIfInBounds_toArray, List.set_cons_zero, List.set_cons_succ]
          refine wpAnyH_take (i := 5) (oi := { dst := some 65, op := Op.fieldAddr 73 (Operand.tmp 64) 0, type := 0, pos := "ref.go:24", after := #[{ on := 4, ground := Ground.data }], guard := none }) (v := ?_) rfl (by kernel_rfl) (by kernel_rfl) (by kernel_rfl) (fun _ _ _ h => h) (Or.inl ⟨by rfl, ?hy18⟩) hS0 ?_
          case hy18 => (intro V hSw; (try dsimp only at hSw); clear hSw; go_simp; try with_reducible rfl)
          try simp only [Act.put, List.setIfInBounds_toArray, List.set_cons_zero, List.set_cons_succ]
          refine wpAnyH_take (i := 6) (oi := { dst := some 66, op := Op.load 3 (Operand.tmp 65), type := 3, pos := "ref.go:24", after := #[{ on := 5, ground := Ground.data }], guard := none }) (v := ?_) rfl (by kernel_rfl) (by kernel_rfl) (by kernel_rfl) (fun _ _ _ h => h) (Or.inl ⟨by rfl, ?hy19⟩) hS0 ?_
          case hy19 => (intro V hSw; (try dsimp only at hSw); have q0 := grow_cell hSw.out hb7p d7; clear hSw; go_simp; try with_reducible rfl)
          try simp only [Act.put, List.setIfInBounds_toArray, List.set_cons_zero, List.set_cons_succ]
          refine wpAnyH_ready (rs := [1, 7]) (by kernel_rfl) (by simp) (AllReadyH.cons rfl (fun K hK => ?_) (AllReadyH.cons rfl (fun K hK => ?_) AllReadyH.nil))
          · have hld := (cell_of_blk hpd 3).trans (show _ = some (.slice la i lc) from rfl)
            go_simp
            clear hld
            refine hK.out _ _ hS0 (fun _ => ?_)
            clear hK K
            try simp only [Act.put, List.setIfInBounds_toArray, List.set_cons_zero, List.set_cons_succ]
            refine wpAnyH_ready (rs := [7]) (by kernel_rfl) (by simp) (AllReadyH.cons rfl (fun K hK => ?_) AllReadyH.nil)
            go_simp
            have hp20 := blk_old hpd (.cells #[.int .i64 kz] 3)
            refine hK.out _ _ hSA (fun _ => ?_)
            clear hK K
            try simp only [Act.put, List.setIfInBounds_toArray, List.set_cons_zero, List.set_cons_succ]
            refine wpAnyH_ready (rs := [8]) (by kernel_rfl) (by simp) (AllReadyH.cons rfl (fun K hK => ?_) AllReadyH.nil)
            refine wp_append_run (.tmp 61) (.tmp 67) 32 rfl _ _ _ _ rfl rfl hrun ?_
            refine hK.out _ _ hS2 (fun _ => ?_)
            clear hK K
            try simp only [Act.put, List.setIfInBounds_toArray, List.set_cons_zero, List.set_cons_succ]
            refine wpAnyH_take (i := 9) (oi := { dst := some 69, op := Op.fieldAddr 38 (Operand.tmp 7) 3, type := 0, pos := "ref.go:24", after := #[{ on := 0, ground := Ground.phase }, { on := 1, ground := Ground.phase }, { on := 2, ground := Ground.phase }, { on := 3, ground := Ground.phase }, { on := 4, ground := Ground.phase }, { on := 5, ground := Ground.phase }, { on := 6, ground := Ground.phase }, { on := 7, ground := Ground.phase }, { on := 8, ground := Ground.phase }], guard := none }) (v := ?_) rfl (by kernel_rfl) (by kernel_rfl) (by kernel_rfl) (fun _ _ _ h => h) (Or.inl ⟨by rfl, ?hy21⟩) hS2 ?_
            case hy21 => (intro V hSw; (try dsimp only at hSw); clear hSw; go_simp; try with_reducible rfl)
            try simp only [Act.put, List.setIfInBounds_toArray, List.set_cons_zero, List.set_cons_succ]
            refine wpAnyH_ready (rs := [10]) (by kernel_rfl) (by simp) (AllReadyH.cons rfl (fun K hK => ?_) AllReadyH.nil)
            have pc := (cell_of_blk hpb2 3).trans (show _ = some (.slice la i lc) from rfl)
            have pz := frozen_of_blk hpb2 3
            go_simp
            clear pc pz
            refine hK.out _ _ hS3 (fun _ => ?_)
            clear hK K
            try simp only [Act.put, List.setIfInBounds_toArray, List.set_cons_zero, List.set_cons_succ]
            refine wpAnyH_done (by kernel_rfl) ?_ _
            go_wp2_with fail
            go_roundw
            case rel => exact ⟨i + 1, by omega, by omega, by go_num, la2, lc2, HF.out⟩
            case measure => simp [intOf]; omega
          · go_simp
            have hp22 := blk_old hpd (.cells #[.int .i64 kz] 3)
            refine hK.out _ _ hSA (fun _ => ?_)
            clear hK K
            try simp only [Act.put, List.setIfInBounds_toArray, List.set_cons_zero, List.set_cons_succ]
            refine wpAnyH_ready (rs := [1]) (by kernel_rfl) (by simp) (AllReadyH.cons rfl (fun K hK => ?_) AllReadyH.nil)
            have hld := (cell_of_blk hp22 3).trans (show _ = some (.slice la i lc) from rfl)
            have hle := (cell_of_blk hpd 3).trans (show _ = some (.slice la i lc) from rfl)
            have hlt' := blk_lt hpd
            go_simp
            clear hld hle hlt'
            refine hK.out _ _ hSA (fun _ => ?_)
            clear hK K
            try simp only [Act.put, List.setIfInBounds_toArray, List.set_cons_zero, List.set_cons_succ]
            refine wpAnyH_ready (rs := [8]) (by kernel_rfl) (by simp) (AllReadyH.cons rfl (fun K hK => ?_) AllReadyH.nil)
            refine wp_append_run (.tmp 61) (.tmp 67) 32 rfl _ _ _ _ rfl rfl hrun ?_
            refine hK.out _ _ hS2 (fun _ => ?_)
            clear hK K
            try simp only [Act.put, List.setIfInBounds_toArray, List.set_cons_zero, List.set_cons_succ]
            refine wpAnyH_take (i := 9) (oi := { dst := some 69, op := Op.fieldAddr 38 (Operand.tmp 7) 3, type := 0, pos := "ref.go:24", after := #[{ on := 0, ground := Ground.phase }, { on := 1, ground := Ground.phase }, { on := 2, ground := Ground.phase }, { on := 3, ground := Ground.phase }, { on := 4, ground := Ground.phase }, { on := 5, ground := Ground.phase }, { on := 6, ground := Ground.phase }, { on := 7, ground := Ground.phase }, { on := 8, ground := Ground.phase }], guard := none }) (v := ?_) rfl (by kernel_rfl) (by kernel_rfl) (by kernel_rfl) (fun _ _ _ h => h) (Or.inl ⟨by rfl, ?hy23⟩) hS2 ?_
            case hy23 => (intro V hSw; (try dsimp only at hSw); clear hSw; go_simp; try with_reducible rfl)
            try simp only [Act.put, List.setIfInBounds_toArray, List.set_cons_zero, List.set_cons_succ]
            refine wpAnyH_ready (rs := [10]) (by kernel_rfl) (by simp) (AllReadyH.cons rfl (fun K hK => ?_) AllReadyH.nil)
            have pc := (cell_of_blk hpb2 3).trans (show _ = some (.slice la i lc) from rfl)
            have pz := frozen_of_blk hpb2 3
            go_simp
            clear pc pz
            refine hK.out _ _ hS3 (fun _ => ?_)
            clear hK K
            try simp only [Act.put, List.setIfInBounds_toArray, List.set_cons_zero, List.set_cons_succ]
            refine wpAnyH_done (by kernel_rfl) ?_ _
            go_wp2_with fail
            go_roundw
            case rel => exact ⟨i + 1, by omega, by omega, by go_num, la2, lc2, HF.out⟩
            case measure => simp [intOf]; omega
      · have hdk : decide ((i : Int) < (K : Int)) = false := decide_eq_false (by omega)
        have Hik : Hid (i = min 3 K) := Lib.hid (by omega)
        have HRr : Hid (wr0.heap[w.heap.size]? = some (.cells #[.int .i64 0, .int .i64 0, .slice none 0 0, .slice none 0 0, .string ⟨#[]⟩] 38 (0, 0))) := Lib.hid ((Hb5r.out.block _ hrpb).trans HR5.out)
        have HUzr : Hid (Uz wr0 ub mz) := Lib.hid ⟨(Hb5r.out.block _ hubpb).trans HUz5.out.blk⟩
        have Hpt := Hpb
        have Hbwr : Hid (Below w.heap.size w wr0) := Lib.hid (Hb5.out.trans (Hb5r.out.mono (Nat.le_of_lt hrpb)))
        have Hi : Hid (i = min 3 (planO X.l n).length) := Lib.hid (by rw [← HKO.out]; exact Hik.out)
        clear Hik
        by_cases hK3 : K ≤ 3
        · have dk1 : decide ((3 : Int) < (K : Int)) = false := decide_eq_false (by omega)
          have HUpE : Hid (upP (planO X.l n) = ⟨#[]⟩) := Lib.hid (by unfold upP; rw [if_pos (by rw [← HKO.out]; exact hK3)])
          have t0 := (cell_of_blk HRr.out 0).trans (show _ = some (.int .i64 0) from rfl)
          have t1 := (cell_of_blk HRr.out 1).trans (show _ = some (.int .i64 0) from rfl)
          have t2 := (cell_of_blk HRr.out 2).trans (show _ = some (.slice none 0 0) from rfl)
          have t3 := (cell_of_blk HRr.out 3).trans (show _ = some (.slice none 0 0) from rfl)
          have t4 := (cell_of_blk HRr.out 4).trans (show _ = some (.string ⟨#[]⟩) from rfl)
          have tz := fun j => frozen_of_blk HRr.out j
          have s0 := (cell_of_blk Hpt.out 0).trans (show _ = some (.int .i64 n) from rfl)
          have s1 := (cell_of_blk Hpt.out 1).trans (show _ = some (.int .i64 ((n : Int) + 1)) from rfl)
          have s2 := (cell_of_blk Hpt.out 2).trans (show _ = some (.slice (some ⟨ub, 0, none⟩) 1 1) from rfl)
          have s3 := (cell_of_blk Hpt.out 3).trans (show _ = some (.slice la i lc) from rfl)
          have s4 := (cell_of_blk Hpt.out 4).trans (show _ = some (.string ⟨#[]⟩) from rfl)
          have sz := fun j => frozen_of_blk Hpt.out j
          skip
          have HF := Lib.hid (plan_end2 Hbwr.out Hpt.out HRr.out Hown.out HUzr.out (Nat.le_refl _) (by omega) (by omega))
          go_wp2_with fail
          refine bodyPost_ret (v := .agg #[.int .i64 n, .int .i64 ((n : Int) + 1), .slice (some ⟨ub, 0, none⟩) 1 1, .slice la i lc, .string ⟨#[]⟩]) ?_ rfl ?_
          · exact results_cell_row Tryd.results25 _ _ w.heap.size 38 _ (0, 0) _ rfl HF.out.1 Tryd.underlying38 rfl planInfo2
          · exact Lib.hid (planIs_mk (by rw [← HqM.out]; exact HF.out.2.1) HF.out.2.2.1 Hi.out rfl HUpE.out HF.out.2.2.2 (by omega) (by omega))
        · exact absurd (by omega) hK3
end Go.Proofs.YtcmndnglmpkpdaaDoor.Tithe
