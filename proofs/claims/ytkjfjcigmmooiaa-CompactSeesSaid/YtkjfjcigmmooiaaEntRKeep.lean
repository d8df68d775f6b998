/- The document's Keep: walked. -/
import Derived.Test.YtkjfjcigmmooiaaEntFlags
import Derived.Test.YtkjfjcigmmooiaaEntVer
namespace Go.Proofs.Ytkjfjcigmmooiaa.Tithe
open Go.RowKit Go.Sort Go.Shelf
set_option linter.unusedVariables false
set_option linter.unusedSimpArgs false
set_option maxRecDepth 100000
/-- the marks of the first places, of place i as far as the first j numbers tell -/
def k0T (l : List En) (zs : List Int) (i j : Nat) : Bool := decide (getI l (l.getD i En.nil).key.u 1099511627776 = (i : Int)) || (zs.take j).any fun z => decide (getI l (l.getD i En.nil).key.u z = (i : Int))
def k0B (l : List En) (zs : List Int) (i : Nat) : Nat → Bool := fun k => if k < i then k0 l zs k else false
theorem k0T_all {l : List En} {zs : List Int} {i : Nat} : k0T l zs i zs.length = k0 l zs i := by unfold k0T k0; rw [List.take_length]
theorem k0T_zero {l : List En} {zs : List Int} {i : Nat} : k0T l zs i 0 = decide (getI l (l.getD i En.nil).key.u 1099511627776 = (i : Int)) := by unfold k0T; simp
theorem k0T_succ {l : List En} {zs : List Int} {i j : Nat} {z : Int} (h : zs[j]? = some z) : k0T l zs i (j + 1) = (k0T l zs i j || decide (getI l (l.getD i En.nil).key.u z = (i : Int))) := by
  unfold k0T
  rw [List.take_add_one, h, List.any_append, Bool.or_assoc]; simp
theorem drew_blk' {W : World} {b : Nat} {x : Obj} (h : W.heap[b]? = some x) : W.drew.heap[b]? = some x := h
def fB (l : List En) (zs : List Int) (cv : ByteArray → Bool) (A : List Mk) (p : Nat) : Nat → Bool := fun k => if k < p then k0 l zs k else ((finK cv A).getD k (En.nil, false)).2
theorem fB_ge {l : List En} {zs : List Int} {cv : ByteArray → Bool} {A : List Mk} {p k : Nat} {y : Mk} (h : (finK cv A)[k]? = some y) (hk : p ≤ k) : fB l zs cv A p k = y.2 := by
  unfold fB
  rw [if_neg (by omega), List.getD_eq_getElem?_getD, h]; rfl
theorem fB_same {l : List En} {zs : List Int} {cv : ByteArray → Bool} {A : List Mk} {t : Nat} {x : En} {f : Bool} (h : (finK cv A)[t]? = some (x, f)) (hf : f = k0 l zs t) (k : Nat) : fB l zs cv A t k = fB l zs cv A (t + 1) k := by
  by_cases e : k = t
  · subst e
    rw [fB_ge h (Nat.le_refl _)]
    unfold fB
    rw [if_pos (Nat.lt_succ_self _)]; exact hf
  · unfold fB
    by_cases e2 : k < t
    · rw [if_pos e2, if_pos (by omega)]
    · rw [if_neg e2, if_neg (by omega)]
theorem fB_drop {l : List En} {zs : List Int} {cv : ByteArray → Bool} {A : List Mk} {t : Nat} {x : En} (h : (finK cv A)[t]? = some (x, false)) (k : Nat) : fB l zs cv A t k = if k = t then false else fB l zs cv A (t + 1) k := by
  by_cases e : k = t
  · subst e
    rw [fB_ge h (Nat.le_refl _), if_pos rfl]
  · rw [if_neg e]
    unfold fB
    by_cases e2 : k < t
    · rw [if_pos e2, if_pos (by omega)]
    · rw [if_neg e2, if_neg (by omega)]
attribute [local go_sem] Oper.semAt_some
set_option maxHeartbeats 6400000 in
theorem rkeep_any (v vz vd : Value) (l : List En) (zs : List Int) (ds : List ByteArray) (w : World) (h : IsEs w v l) (hz : IsZs w vz zs) (hd : IsSx w vd ds) (hl : l.length ≤ 100000) (hs : OrdE l) (hu : ∀ x ∈ l, x.key.u.size ≤ maxLen) :
    Calls Try.prog 21 #[v, vz, vd] w fun e w' => Hid (∃ v', e = .returned v' ∧ OwnRe w' w.heap.size v' (keptM (finK (fun u => ds.any fun d => decide (d = u)) ((List.range l.length).map fun j => (l.getD j En.nil, k0 l zs j)))) ∧ Below w.heap.size w w') := by
  have HG := Lib.hid (fun (u : ByteArray) (s : Int) (A : World) (hA : Below w.heap.size w A) => get_any v l u s A (h.below hA) hl hs hu)
  obtain ⟨a, c, rfl, -, -, -⟩ := id h
  obtain ⟨az, cz, rfl, -, -, -⟩ := id hz
  obtain ⟨ad, cd, rfl, -, -, -⟩ := id hd
  obtain ⟨-, hc, hm, hx⟩ := h.at
  obtain ⟨-, hcz, hmz, hxz⟩ := hz.at
  obtain ⟨-, hcd, hmd, hxd⟩ := hd.at
  obtain ⟨n, hn⟩ : ∃ n, n = l.length := ⟨_, rfl⟩
  obtain ⟨m, hm2⟩ : ∃ m, m = zs.length := ⟨_, rfl⟩
  obtain ⟨q, hq2⟩ : ∃ q, q = ds.length := ⟨_, rfl⟩
  rw [← hn] at hc hx hl HG ⊢
  rw [← hm2] at hcz hxz ⊢
  rw [← hq2] at hcd hxd ⊢
  have Hx := Lib.hid hx
  have Hxz := Lib.hid hxz
  have Hxd := Lib.hid hxd
  have Hn := Lib.hid hn
  have Hm := Lib.hid hm2
  have Hq := Lib.hid hq2
  have hmk := run_make_row' (P := Try.prog) 103 4 (.bool false) 1 Try.underlying103 boolInfo rfl .i64 .i64 n (by omega) (by omega)
  rw [bA_made] at hmk
  have HA := Lib.hid ((Below.refl w.heap.size w).alloc (Nat.le_refl _) (.cells (bA n (fun _ => false)) 4))
  have HB := Lib.hid (blk_of_alloc w (.cells (bA n (fun _ => false)) 4))
  clear h hz hd hx hxz hxd hn hm2 hq2 hs hu
  go_enter Try.func21, Try.ntmps21
  go_upto_region 2 with fail
  clear hmk
  generalize w.alloc (.cells (bA n (fun _ => false)) 4) = W1 at *
  go_wp2_with fail
  go_loopw [8] (fun iv wr => ∃ i : Nat, i ≤ n ∧ iv = .int .i64 i ∧ wr.heap[w.heap.size]? = some (.cells (bA n (k0B l zs i)) 4 (0, 0)) ∧ Below w.heap.size w wr) (fun iv _ => n - (intOf iv).toNat)
  case atStart => exact ⟨0, Nat.zero_le _, rfl, by have := HB.out; rw [show k0B l zs 0 = fun _ => false from funext fun k => if_neg (Nat.not_lt_zero _)]; exact this, HA.out⟩
  case round =>
    clear HA HB
    obtain ⟨wo, rfl⟩ : ∃ wo : World, wo = wr := ⟨_, rfl⟩
    obtain ⟨i, hi, rfl, hB, hb⟩ := hrel
    have HB := Lib.hid hB
    have Hb := Lib.hid hb
    clear hB hb
    by_cases hin : i < n
    · obtain ⟨b, off, rfl, hcell⟩ := Hx.out (by omega)
      obtain ⟨x, hxi⟩ : ∃ x, l[i]? = some x := ⟨_, List.getElem?_eq_getElem (by rw [← Hn.out]; exact hin)⟩
      have Hrow := Lib.hid (fun (A : World) (hA : Below w.heap.size w A) => IsEs.row (w := A) (fun i x hi j y hj => (hA.cell (block_lt_of_cell (hcell i x hi j y hj))).trans (hcell i x hi j y hj)) hxi)
      have hgd : l.getD i En.nil = x := by rw [List.getD_eq_getElem?_getD, hxi]; rfl
      obtain ⟨⟨u, s, kd⟩, val⟩ := x
      have HG0 := Lib.hid (HG.out u 1099511627776 wo Hb.out)
      obtain ⟨d0, -, -, -⟩ := Hrow.out wo Hb.out
      have hin2 : (i : Int) < (n : Int) := by omega
      have hk0 : k0T l zs i 0 = (getI l u 1099511627776 == (i : Int)) := by
        rw [k0T_zero, hgd, Bool.eq_iff_iff, decide_eq_true_eq, beq_iff_eq]
      have Hk0 := Lib.hid hk0
      have Hgd := Lib.hid hgd
      have Hcb : Hid (∀ (A : World), Below wo.heap.size wo A → A.cell? ⟨w.heap.size, i, none⟩ = some (.bool (k0B l zs i i)) ∧ A.frozen? ⟨w.heap.size, i, none⟩ = false ∧ (A.setCell ⟨w.heap.size, i, none⟩ (.bool (k0T l zs i 0))).heap[w.heap.size]? = some (.cells (bA n (fun k => if k = i then k0T l zs i 0 else k0B l zs i k)) 4 (0, 0)) ∧ Below w.heap.size w (A.setCell ⟨w.heap.size, i, none⟩ (.bool (k0T l zs i 0)))) := Lib.hid (fun A hA => by
        have hB2 := blk_bels hA HB.out
        exact ⟨(cell_of_blk hB2 i).trans (bA_get _ hin), frozen_of_blk hB2 i, blk_bset hB2 hin _, (Hb.out.trans (hA.mono Hb.out.size)).setCell (p := ⟨w.heap.size, i, none⟩) (Nat.le_refl _) _⟩)
      clear hcell hxi hgd hk0
      go_wp2_with fail
      refine HG0.out.mono ?_
      rintro e w2 ⟨rfl, hb2⟩
      obtain ⟨g0, g1, g2, g3⟩ := Hcb.out w2 hb2
      have HB3 := Lib.hid g2
      have Hb3 := Lib.hid g3
      rw [Hk0.out] at HB3 Hb3
      clear hb2 g2 g3 d0 Hcb
      go_wp2_with fail
      clear g0 g1
      generalize w2.setCell ⟨w.heap.size, i, none⟩ (.bool (getI l u 1099511627776 == (i : Int))) = W5 at *
      have HB4 : Hid (W5.heap[w.heap.size]? = some (.cells (bA n (fun k => if k = i then k0T l zs i 0 else k0B l zs i k)) 4 (0, 0))) := Lib.hid (by rw [Hk0.out]; exact HB3.out)
      clear HB3
      go_loopw [9] (fun jv wr => ∃ j : Nat, j ≤ m ∧ jv = .int .i64 j ∧ wr.heap[w.heap.size]? = some (.cells (bA n (fun k => if k = i then k0T l zs i j else k0B l zs i k)) 4 (0, 0)) ∧ Below w.heap.size w wr) (fun jv _ => m - (intOf jv).toNat)
      case atStart => exact ⟨0, Nat.zero_le _, rfl, HB4.out, Hb3.out⟩
      case round =>
        clear HB4 Hb3
        obtain ⟨wq, rfl⟩ : ∃ wq : World, wq = wr := ⟨_, rfl⟩
        obtain ⟨j, hj, rfl, hBq, hbq⟩ := hrel
        have HBq := Lib.hid hBq
        have Hbq := Lib.hid hbq
        clear hBq hbq
        by_cases hjm : j < m
        · obtain ⟨b2, off2, rfl, hcz2⟩ := Hxz.out (by omega)
          obtain ⟨z, hzj⟩ : ∃ z, zs[j]? = some z := ⟨_, List.getElem?_eq_getElem (by rw [← Hm.out]; exact hjm)⟩
          have cz0 : w.cell? ⟨b2, off2 + j, none⟩ = some (.int .i64 z) := by
            have := hcz2 j z hzj 0 _ rfl
            rw [Nat.mul_one, Nat.add_zero] at this
            exact this
          have Hst := Lib.hid (k0T_succ (l := l) (i := i) hzj)
          have HGz := Lib.hid (HG.out u z)
          obtain ⟨d0, -, -, -⟩ := Hrow.out w (Below.refl _ _)
          have hjm2 : (j : Int) < (m : Int) := by omega
          have hkd := fun (A : World) (hA : Below wq.heap.size wq A) => (blk_bels hA HBq.out)
          have Hkd := Lib.hid hkd
          clear hcz2 hzj hkd
          obtain ⟨old, hold⟩ : ∃ o, o = k0T l zs i j := ⟨_, rfl⟩
          have Hold := Lib.hid hold
          have kc : wq.drew.cell? ⟨w.heap.size, i, none⟩ = some (.bool old) := by
            rw [hold]
            exact (cell_of_blk (drew_blk' HBq.out) i).trans ((bA_get _ hin).trans (by rw [if_pos rfl]))
          have Hbqd := Lib.hid Hbq.out.drew
          clear hold
          go_upto_region 9 with fail
          cases old with
          | true =>
            have Hcg : Hid (bA n (fun k => if k = i then k0T l zs i (j + 1) else k0B l zs i k) = bA n (fun k => if k = i then true else (if k = i then k0T l zs i j else k0B l zs i k))) := Lib.hid (bA_congr (fun k hk => by
              by_cases e : k = i
              · rw [if_pos e, if_pos e, Hst.out, ← Hold.out]
                exact Bool.true_or _
              · rw [if_neg e, if_neg e, if_neg e]))
            have HFb := Lib.hid (blk_bset (drew_blk' HBq.out) hin true)
            have HFw := Lib.hid (Hbqd.out.setCell (p := ⟨w.heap.size, i, none⟩) (Nat.le_refl _) (.bool true))
            refine wp_region_held_drew (S := fun V' => Hid (Below w.heap.size w V')) (by kernel_rfl) Hbqd (fun hS0 => ?_)
            refine wpAnyH_take (i := 0) (oi := { dst := some 45, op := Op.move (Operand.tmp 7), type := 103, pos := "ref.go:15", after := #[], guard := none }) (v := ?_) rfl (by kernel_rfl) (by kernel_rfl) (by kernel_rfl) (fun _ _ _ h => h) (Or.inl ⟨by rfl, ?hy1⟩) hS0 ?_
            case hy1 => (intro V hSw; (try dsimp only at hSw); clear hSw; go_simp; try with_reducible rfl)
            try simp only [Act.put, List.setIfInBounds_toArray, List.set_cons_zero, List.set_cons_succ]
            refine wpAnyH_take (i := 1) (oi := { dst := some 46, op := Op.move (Operand.tmp 8), type := 3, pos := "ref.go:15", after := #[], guard := none }) (v := ?_) rfl (by kernel_rfl) (by kernel_rfl) (by kernel_rfl) (fun _ _ _ h => h) (Or.inl ⟨by rfl, ?hy2⟩) hS0 ?_
            case hy2 => (intro V hSw; (try dsimp only at hSw); clear hSw; go_simp; try with_reducible rfl)
            try simp only [Act.put, List.setIfInBounds_toArray, List.set_cons_zero, List.set_cons_succ]
            refine wpAnyH_take (i := 2) (oi := { dst := some 47, op := Op.move (Operand.tmp 7), type := 103, pos := "ref.go:15", after := #[], guard := none }) (v := ?_) rfl (by kernel_rfl) (by kernel_rfl) (by kernel_rfl) (fun _ _ _ h => h) (Or.inl ⟨by rfl, ?hy3⟩) hS0 ?_
            case hy3 => (intro V hSw; (try dsimp only at hSw); clear hSw; go_simp; try with_reducible rfl)
            try simp only [Act.put, List.setIfInBounds_toArray, List.set_cons_zero, List.set_cons_succ]
            refine wpAnyH_take (i := 3) (oi := { dst := some 48, op := Op.move (Operand.tmp 8), type := 3, pos := "ref.go:15", after := #[], guard := none }) (v := ?_) rfl (by kernel_rfl) (by kernel_rfl) (by kernel_rfl) (fun _ _ _ h => h) (Or.inl ⟨by rfl, ?hy4⟩) hS0 ?_
            case hy4 => (intro V hSw; (try dsimp only at hSw); clear hSw; go_simp; try with_reducible rfl)
            try simp only [Act.put, List.setIfInBounds_toArray, List.set_cons_zero, List.set_cons_succ]
            refine wpAnyH_take (i := 4) (oi := { dst := some 49, op := Op.indexAddr 103 (Operand.tmp 47) (Operand.tmp 48), type := 0, pos := "ref.go:15", after := #[{ on := 2, ground := Ground.data }, { on := 3, ground := Ground.data }], guard := none }) (v := ?_) rfl (by kernel_rfl) (by kernel_rfl) (by kernel_rfl) (fun _ _ _ h => h) (Or.inl ⟨by rfl, ?hy5⟩) hS0 ?_
            case hy5 => (intro V hSw; (try dsimp only at hSw); clear hSw; go_simp; try with_reducible rfl)
            try simp only [Act.put, List.setIfInBounds_toArray, List.set_cons_zero, List.set_cons_succ]
            refine wpAnyH_ready (rs := [5]) (by kernel_rfl) (by simp) (AllReadyH.cons rfl (fun K hK => ?_) AllReadyH.nil)
            have kc1 := kc
            go_simp
            clear kc1
            refine hK.out _ _ hS0 (fun _ => ?_)
            clear hK K
            try simp only [Act.put, List.setIfInBounds_toArray, List.set_cons_zero, List.set_cons_succ]
            refine wpAnyH_take (i := 6) (oi := { dst := some 51, op := Op.move (Operand.tmp 50), type := 4, pos := "ref.go:15", after := #[{ on := 5, ground := Ground.data }], guard := none }) (v := ?_) rfl (by kernel_rfl) (by kernel_rfl) (by kernel_rfl) (fun _ _ _ h => h) (Or.inl ⟨by rfl, ?hy6⟩) hS0 ?_
            case hy6 => (intro V hSw; (try dsimp only at hSw); clear hSw; go_simp; try with_reducible rfl)
            try simp only [Act.put, List.setIfInBounds_toArray, List.set_cons_zero, List.set_cons_succ]
            refine wpAnyH_take (i := 7) (oi := { dst := some 52, op := Op.move (Operand.tmp 0), type := 62, pos := "ref.go:15", after := #[{ on := 6, ground := Ground.guard }], guard := some (6, false) }) (v := undef) rfl (by kernel_rfl) (by kernel_rfl) (by kernel_rfl) (fun _ _ _ h => h) (Or.inr ⟨by rfl, rfl⟩) hS0 ?_
            try simp only [Act.put, List.setIfInBounds_toArray, List.set_cons_zero, List.set_cons_succ]
            refine wpAnyH_take (i := 8) (oi := { dst := some 53, op := Op.move (Operand.tmp 0), type := 62, pos := "ref.go:15", after := #[{ on := 6, ground := Ground.guard }], guard := some (6, false) }) (v := undef) rfl (by kernel_rfl) (by kernel_rfl) (by kernel_rfl) (fun _ _ _ h => h) (Or.inr ⟨by rfl, rfl⟩) hS0 ?_
            try simp only [Act.put, List.setIfInBounds_toArray, List.set_cons_zero, List.set_cons_succ]
            refine wpAnyH_take (i := 9) (oi := { dst := some 54, op := Op.move (Operand.tmp 8), type := 3, pos := "ref.go:15", after := #[{ on := 6, ground := Ground.guard }], guard := some (6, false) }) (v := undef) rfl (by kernel_rfl) (by kernel_rfl) (by kernel_rfl) (fun _ _ _ h => h) (Or.inr ⟨by rfl, rfl⟩) hS0 ?_
            try simp only [Act.put, List.setIfInBounds_toArray, List.set_cons_zero, List.set_cons_succ]
            refine wpAnyH_take (i := 10) (oi := { dst := some 55, op := Op.indexAddr 62 (Operand.tmp 53) (Operand.tmp 54), type := 0, pos := "ref.go:15", after := #[{ on := 8, ground := Ground.data }, { on := 9, ground := Ground.data }, { on := 6, ground := Ground.guard }], guard := some (6, false) }) (v := undef) rfl (by kernel_rfl) (by kernel_rfl) (by kernel_rfl) (fun _ _ _ h => h) (Or.inr ⟨by rfl, rfl⟩) hS0 ?_
            try simp only [Act.put, List.setIfInBounds_toArray, List.set_cons_zero, List.set_cons_succ]
            refine wpAnyH_take (i := 11) (oi := { dst := some 56, op := Op.fieldAddr 67 (Operand.tmp 55) 0, type := 0, pos := "ref.go:15", after := #[{ on := 10, ground := Ground.data }, { on := 6, ground := Ground.guard }], guard := some (6, false) }) (v := undef) rfl (by kernel_rfl) (by kernel_rfl) (by kernel_rfl) (fun _ _ _ h => h) (Or.inr ⟨by rfl, rfl⟩) hS0 ?_
            try simp only [Act.put, List.setIfInBounds_toArray, List.set_cons_zero, List.set_cons_succ]
            refine wpAnyH_take (i := 12) (oi := { dst := some 57, op := Op.fieldAddr 65 (Operand.tmp 56) 0, type := 0, pos := "ref.go:15", after := #[{ on := 11, ground := Ground.data }, { on := 6, ground := Ground.guard }], guard := some (6, false) }) (v := undef) rfl (by kernel_rfl) (by kernel_rfl) (by kernel_rfl) (fun _ _ _ h => h) (Or.inr ⟨by rfl, rfl⟩) hS0 ?_
            try simp only [Act.put, List.setIfInBounds_toArray, List.set_cons_zero, List.set_cons_succ]
            refine wpAnyH_take (i := 13) (oi := { dst := some 58, op := Op.load 9 (Operand.tmp 57), type := 9, pos := "ref.go:15", after := #[{ on := 12, ground := Ground.data }, { on := 6, ground := Ground.guard }], guard := some (6, false) }) (v := undef) rfl (by kernel_rfl) (by kernel_rfl) (by kernel_rfl) (fun _ _ _ h => h) (Or.inr ⟨by rfl, rfl⟩) hS0 ?_
            try simp only [Act.put, List.setIfInBounds_toArray, List.set_cons_zero, List.set_cons_succ]
            refine wpAnyH_take (i := 14) (oi := { dst := some 59, op := Op.move (Operand.tmp 1), type := 51, pos := "ref.go:15", after := #[{ on := 6, ground := Ground.guard }], guard := some (6, false) }) (v := undef) rfl (by kernel_rfl) (by kernel_rfl) (by kernel_rfl) (fun _ _ _ h => h) (Or.inr ⟨by rfl, rfl⟩) hS0 ?_
            try simp only [Act.put, List.setIfInBounds_toArray, List.set_cons_zero, List.set_cons_succ]
            refine wpAnyH_take (i := 15) (oi := { dst := some 60, op := Op.move (Operand.tmp 9), type := 3, pos := "ref.go:15", after := #[{ on := 6, ground := Ground.guard }], guard := some (6, false) }) (v := undef) rfl (by kernel_rfl) (by kernel_rfl) (by kernel_rfl) (fun _ _ _ h => h) (Or.inr ⟨by rfl, rfl⟩) hS0 ?_
            try simp only [Act.put, List.setIfInBounds_toArray, List.set_cons_zero, List.set_cons_succ]
            refine wpAnyH_take (i := 16) (oi := { dst := some 61, op := Op.indexAddr 51 (Operand.tmp 59) (Operand.tmp 60), type := 0, pos := "ref.go:15", after := #[{ on := 14, ground := Ground.data }, { on := 15, ground := Ground.data }, { on := 6, ground := Ground.guard }], guard := some (6, false) }) (v := undef) rfl (by kernel_rfl) (by kernel_rfl) (by kernel_rfl) (fun _ _ _ h => h) (Or.inr ⟨by rfl, rfl⟩) hS0 ?_
            try simp only [Act.put, List.setIfInBounds_toArray, List.set_cons_zero, List.set_cons_succ]
            refine wpAnyH_take (i := 17) (oi := { dst := some 62, op := Op.load 3 (Operand.tmp 61), type := 3, pos := "ref.go:15", after := #[{ on := 16, ground := Ground.data }, { on := 6, ground := Ground.guard }], guard := some (6, false) }) (v := undef) rfl (by kernel_rfl) (by kernel_rfl) (by kernel_rfl) (fun _ _ _ h => h) (Or.inr ⟨by rfl, rfl⟩) hS0 ?_
            try simp only [Act.put, List.setIfInBounds_toArray, List.set_cons_zero, List.set_cons_succ]
            refine wpAnyH_take (i := 18) (oi := { dst := some 63, op := Op.call { callee := Callee.value (Operand.func 43), args := #[Operand.tmp 52, Operand.tmp 58, Operand.tmp 62], argTypes := #[62, 9, 3] }, type := 3, pos := "ref.go:15", after := #[{ on := 7, ground := Ground.data }, { on := 13, ground := Ground.data }, { on := 17, ground := Ground.data }, { on := 6, ground := Ground.chain }, { on := 6, ground := Ground.guard }], guard := some (6, false) }) (v := undef) rfl (by kernel_rfl) (by kernel_rfl) (by kernel_rfl) (fun _ _ _ h => h) (Or.inr ⟨by rfl, rfl⟩) hS0 ?_
            try simp only [Act.put, List.setIfInBounds_toArray, List.set_cons_zero, List.set_cons_succ]
            refine wpAnyH_take (i := 19) (oi := { dst := some 64, op := Op.move (Operand.tmp 8), type := 3, pos := "ref.go:15", after := #[{ on := 6, ground := Ground.guard }], guard := some (6, false) }) (v := undef) rfl (by kernel_rfl) (by kernel_rfl) (by kernel_rfl) (fun _ _ _ h => h) (Or.inr ⟨by rfl, rfl⟩) hS0 ?_
            try simp only [Act.put, List.setIfInBounds_toArray, List.set_cons_zero, List.set_cons_succ]
            refine wpAnyH_take (i := 20) (oi := { dst := some 65, op := Op.binOp BinOp.eql 3 (Operand.tmp 63) (Operand.tmp 64) 3, type := 4, pos := "ref.go:15", after := #[{ on := 18, ground := Ground.data }, { on := 19, ground := Ground.data }, { on := 6, ground := Ground.guard }], guard := some (6, false) }) (v := undef) rfl (by kernel_rfl) (by kernel_rfl) (by kernel_rfl) (fun _ _ _ h => h) (Or.inr ⟨by rfl, rfl⟩) hS0 ?_
            try simp only [Act.put, List.setIfInBounds_toArray, List.set_cons_zero, List.set_cons_succ]
            refine wpAnyH_take (i := 21) (oi := { dst := some 66, op := Op.pick (Operand.tmp 51) (Operand.const (Value.bool true)) (Operand.tmp 65), type := 4, pos := "ref.go:15", after := #[{ on := 6, ground := Ground.data }, { on := 20, ground := Ground.data }], guard := none }) (v := ?_) rfl (by kernel_rfl) (by kernel_rfl) (by kernel_rfl) (fun _ _ _ h => h) (Or.inl ⟨by rfl, ?hy21⟩) hS0 ?_
            case hy21 => (intro V hSw; (try dsimp only at hSw); clear hSw; go_simp; try with_reducible rfl)
            try simp only [Act.put, List.setIfInBounds_toArray, List.set_cons_zero, List.set_cons_succ]
            refine wpAnyH_take (i := 22) (oi := { dst := some 67, op := Op.indexAddr 103 (Operand.tmp 45) (Operand.tmp 46), type := 0, pos := "ref.go:15", after := #[{ on := 0, ground := Ground.data }, { on := 1, ground := Ground.data }, { on := 0, ground := Ground.phase }, { on := 1, ground := Ground.phase }, { on := 2, ground := Ground.phase }, { on := 3, ground := Ground.phase }, { on := 4, ground := Ground.phase }, { on := 5, ground := Ground.phase }, { on := 6, ground := Ground.phase }, { on := 7, ground := Ground.phase }, { on := 8, ground := Ground.phase }, { on := 9, ground := Ground.phase }, { on := 10, ground := Ground.phase }, { on := 11, ground := Ground.phase }, { on := 12, ground := Ground.phase }, { on := 13, ground := Ground.phase }, { on := 14, ground := Ground.phase }, { on := 15, ground := Ground.phase }, { on := 16, ground := Ground.phase }, { on := 17, ground := Ground.phase }, { on := 18, ground := Ground.phase }, { on := 19, ground := Ground.phase }, { on := 20, ground := Ground.phase }, { on := 21, ground := Ground.phase }], guard := none }) (v := ?_) rfl (by kernel_rfl) (by kernel_rfl) (by kernel_rfl) (fun _ _ _ h => h) (Or.inl ⟨by rfl, ?hy22⟩) hS0 ?_
            case hy22 => (intro V hSw; (try dsimp only at hSw); clear hSw; go_simp; try with_reducible rfl)
            try simp only [Act.put, List.setIfInBounds_toArray, List.set_cons_zero, List.set_cons_succ]
            refine wpAnyH_ready (rs := [23]) (by kernel_rfl) (by simp) (AllReadyH.cons rfl (fun K hK => ?_) AllReadyH.nil)
            have kz := frozen_of_blk (drew_blk' HBq.out) i
            go_simp
            refine hK.out _ _ HFw (fun _ => ?_)
            clear hK K
            try simp only [Act.put, List.setIfInBounds_toArray, List.set_cons_zero, List.set_cons_succ]
            refine wpAnyH_done (by kernel_rfl) ?_ _
            go_wp2_with fail
            go_roundw
            case rel => exact ⟨j + 1, by omega, by go_num, by rw [Hcg.out]; exact HFb.out, HFw.out⟩
            case measure => simp [intOf]; omega
          | false =>
            have Hcg : Hid (bA n (fun k => if k = i then k0T l zs i (j + 1) else k0B l zs i k) = bA n (fun k => if k = i then (getI l u z == (i : Int)) else (if k = i then k0T l zs i j else k0B l zs i k))) := Lib.hid (bA_congr (fun k hk => by
              by_cases e : k = i
              · rw [if_pos e, if_pos e, Hst.out, ← Hold.out]
                rw [Bool.false_or, Hgd.out, Bool.eq_iff_iff, decide_eq_true_eq, beq_iff_eq]
              · rw [if_neg e, if_neg e, if_neg e]))
            refine wp_region_held_drew (S := fun V' => Hid (Below w.heap.size w V')) (by kernel_rfl) Hbqd (fun hS0 => ?_)
            refine wpAnyH_take (i := 0) (oi := { dst := some 45, op := Op.move (Operand.tmp 7), type := 103, pos := "ref.go:15", after := #[], guard := none }) (v := ?_) rfl (by kernel_rfl) (by kernel_rfl) (by kernel_rfl) (fun _ _ _ h => h) (Or.inl ⟨by rfl, ?hy23⟩) hS0 ?_
            case hy23 => (intro V hSw; (try dsimp only at hSw); clear hSw; go_simp; try with_reducible rfl)
            try simp only [Act.put, List.setIfInBounds_toArray, List.set_cons_zero, List.set_cons_succ]
            refine wpAnyH_take (i := 1) (oi := { dst := some 46, op := Op.move (Operand.tmp 8), type := 3, pos := "ref.go:15", after := #[], guard := none }) (v := ?_) rfl (by kernel_rfl) (by kernel_rfl) (by kernel_rfl) (fun _ _ _ h => h) (Or.inl ⟨by rfl, ?hy24⟩) hS0 ?_
            case hy24 => (intro V hSw; (try dsimp only at hSw); clear hSw; go_simp; try with_reducible rfl)
            try simp only [Act.put, List.setIfInBounds_toArray, List.set_cons_zero, List.set_cons_succ]
            refine wpAnyH_take (i := 2) (oi := { dst := some 47, op := Op.move (Operand.tmp 7), type := 103, pos := "ref.go:15", after := #[], guard := none }) (v := ?_) rfl (by kernel_rfl) (by kernel_rfl) (by kernel_rfl) (fun _ _ _ h => h) (Or.inl ⟨by rfl, ?hy25⟩) hS0 ?_
            case hy25 => (intro V hSw; (try dsimp only at hSw); clear hSw; go_simp; try with_reducible rfl)
            try simp only [Act.put, List.setIfInBounds_toArray, List.set_cons_zero, List.set_cons_succ]
            refine wpAnyH_take (i := 3) (oi := { dst := some 48, op := Op.move (Operand.tmp 8), type := 3, pos := "ref.go:15", after := #[], guard := none }) (v := ?_) rfl (by kernel_rfl) (by kernel_rfl) (by kernel_rfl) (fun _ _ _ h => h) (Or.inl ⟨by rfl, ?hy26⟩) hS0 ?_
            case hy26 => (intro V hSw; (try dsimp only at hSw); clear hSw; go_simp; try with_reducible rfl)
            try simp only [Act.put, List.setIfInBounds_toArray, List.set_cons_zero, List.set_cons_succ]
            refine wpAnyH_take (i := 4) (oi := { dst := some 49, op := Op.indexAddr 103 (Operand.tmp 47) (Operand.tmp 48), type := 0, pos := "ref.go:15", after := #[{ on := 2, ground := Ground.data }, { on := 3, ground := Ground.data }], guard := none }) (v := ?_) rfl (by kernel_rfl) (by kernel_rfl) (by kernel_rfl) (fun _ _ _ h => h) (Or.inl ⟨by rfl, ?hy27⟩) hS0 ?_
            case hy27 => (intro V hSw; (try dsimp only at hSw); clear hSw; go_simp; try with_reducible rfl)
            try simp only [Act.put, List.setIfInBounds_toArray, List.set_cons_zero, List.set_cons_succ]
            refine wpAnyH_ready (rs := [5]) (by kernel_rfl) (by simp) (AllReadyH.cons rfl (fun K hK => ?_) AllReadyH.nil)
            have kc1 := kc
            go_simp
            clear kc1
            refine hK.out _ _ hS0 (fun _ => ?_)
            clear hK K
            try simp only [Act.put, List.setIfInBounds_toArray, List.set_cons_zero, List.set_cons_succ]
            refine wpAnyH_take (i := 6) (oi := { dst := some 51, op := Op.move (Operand.tmp 50), type := 4, pos := "ref.go:15", after := #[{ on := 5, ground := Ground.data }], guard := none }) (v := ?_) rfl (by kernel_rfl) (by kernel_rfl) (by kernel_rfl) (fun _ _ _ h => h) (Or.inl ⟨by rfl, ?hy28⟩) hS0 ?_
            case hy28 => (intro V hSw; (try dsimp only at hSw); clear hSw; go_simp; try with_reducible rfl)
            try simp only [Act.put, List.setIfInBounds_toArray, List.set_cons_zero, List.set_cons_succ]
            refine wpAnyH_take (i := 7) (oi := { dst := some 52, op := Op.move (Operand.tmp 0), type := 62, pos := "ref.go:15", after := #[{ on := 6, ground := Ground.guard }], guard := some (6, false) }) (v := ?_) rfl (by kernel_rfl) (by kernel_rfl) (by kernel_rfl) (fun _ _ _ h => h) (Or.inl ⟨by rfl, ?hy29⟩) hS0 ?_
            case hy29 => (intro V hSw; (try dsimp only at hSw); clear hSw; go_simp; try with_reducible rfl)
            try simp only [Act.put, List.setIfInBounds_toArray, List.set_cons_zero, List.set_cons_succ]
            refine wpAnyH_take (i := 8) (oi := { dst := some 53, op := Op.move (Operand.tmp 0), type := 62, pos := "ref.go:15", after := #[{ on := 6, ground := Ground.guard }], guard := some (6, false) }) (v := ?_) rfl (by kernel_rfl) (by kernel_rfl) (by kernel_rfl) (fun _ _ _ h => h) (Or.inl ⟨by rfl, ?hy30⟩) hS0 ?_
            case hy30 => (intro V hSw; (try dsimp only at hSw); clear hSw; go_simp; try with_reducible rfl)
            try simp only [Act.put, List.setIfInBounds_toArray, List.set_cons_zero, List.set_cons_succ]
            refine wpAnyH_take (i := 9) (oi := { dst := some 54, op := Op.move (Operand.tmp 8), type := 3, pos := "ref.go:15", after := #[{ on := 6, ground := Ground.guard }], guard := some (6, false) }) (v := ?_) rfl (by kernel_rfl) (by kernel_rfl) (by kernel_rfl) (fun _ _ _ h => h) (Or.inl ⟨by rfl, ?hy31⟩) hS0 ?_
            case hy31 => (intro V hSw; (try dsimp only at hSw); clear hSw; go_simp; try with_reducible rfl)
            try simp only [Act.put, List.setIfInBounds_toArray, List.set_cons_zero, List.set_cons_succ]
            refine wpAnyH_take (i := 10) (oi := { dst := some 55, op := Op.indexAddr 62 (Operand.tmp 53) (Operand.tmp 54), type := 0, pos := "ref.go:15", after := #[{ on := 8, ground := Ground.data }, { on := 9, ground := Ground.data }, { on := 6, ground := Ground.guard }], guard := some (6, false) }) (v := ?_) rfl (by kernel_rfl) (by kernel_rfl) (by kernel_rfl) (fun _ _ _ h => h) (Or.inl ⟨by rfl, ?hy32⟩) hS0 ?_
            case hy32 => (intro V hSw; (try dsimp only at hSw); clear hSw; go_simp; try with_reducible rfl)
            try simp only [Act.put, List.setIfInBounds_toArray, List.set_cons_zero, List.set_cons_succ]
            refine wpAnyH_take (i := 11) (oi := { dst := some 56, op := Op.fieldAddr 67 (Operand.tmp 55) 0, type := 0, pos := "ref.go:15", after := #[{ on := 10, ground := Ground.data }, { on := 6, ground := Ground.guard }], guard := some (6, false) }) (v := ?_) rfl (by kernel_rfl) (by kernel_rfl) (by kernel_rfl) (fun _ _ _ h => h) (Or.inl ⟨by rfl, ?hy33⟩) hS0 ?_
            case hy33 => (intro V hSw; (try dsimp only at hSw); clear hSw; go_simp; try with_reducible rfl)
            try simp only [Act.put, List.setIfInBounds_toArray, List.set_cons_zero, List.set_cons_succ]
            refine wpAnyH_take (i := 12) (oi := { dst := some 57, op := Op.fieldAddr 65 (Operand.tmp 56) 0, type := 0, pos := "ref.go:15", after := #[{ on := 11, ground := Ground.data }, { on := 6, ground := Ground.guard }], guard := some (6, false) }) (v := ?_) rfl (by kernel_rfl) (by kernel_rfl) (by kernel_rfl) (fun _ _ _ h => h) (Or.inl ⟨by rfl, ?hy34⟩) hS0 ?_
            case hy34 => (intro V hSw; (try dsimp only at hSw); clear hSw; go_simp; try with_reducible rfl)
            try simp only [Act.put, List.setIfInBounds_toArray, List.set_cons_zero, List.set_cons_succ]
            refine wpAnyH_take (i := 13) (oi := { dst := some 58, op := Op.load 9 (Operand.tmp 57), type := 9, pos := "ref.go:15", after := #[{ on := 12, ground := Ground.data }, { on := 6, ground := Ground.guard }], guard := some (6, false) }) (v := ?_) rfl (by kernel_rfl) (by kernel_rfl) (by kernel_rfl) (fun _ _ _ h => h) (Or.inl ⟨by rfl, ?hy35⟩) hS0 ?_
            case hy35 => (intro V hSw; (try dsimp only at hSw); have q0 := grow_cell hSw.out (block_lt_of_cell d0) d0; have q1 := grow_cell hSw.out (block_lt_of_cell cz0) cz0; clear hSw; go_simp; try with_reducible rfl)
            try simp only [Act.put, List.setIfInBounds_toArray, List.set_cons_zero, List.set_cons_succ]
            refine wpAnyH_take (i := 14) (oi := { dst := some 59, op := Op.move (Operand.tmp 1), type := 51, pos := "ref.go:15", after := #[{ on := 6, ground := Ground.guard }], guard := some (6, false) }) (v := ?_) rfl (by kernel_rfl) (by kernel_rfl) (by kernel_rfl) (fun _ _ _ h => h) (Or.inl ⟨by rfl, ?hy36⟩) hS0 ?_
            case hy36 => (intro V hSw; (try dsimp only at hSw); clear hSw; go_simp; try with_reducible rfl)
            try simp only [Act.put, List.setIfInBounds_toArray, List.set_cons_zero, List.set_cons_succ]
            refine wpAnyH_take (i := 15) (oi := { dst := some 60, op := Op.move (Operand.tmp 9), type := 3, pos := "ref.go:15", after := #[{ on := 6, ground := Ground.guard }], guard := some (6, false) }) (v := ?_) rfl (by kernel_rfl) (by kernel_rfl) (by kernel_rfl) (fun _ _ _ h => h) (Or.inl ⟨by rfl, ?hy37⟩) hS0 ?_
            case hy37 => (intro V hSw; (try dsimp only at hSw); clear hSw; go_simp; try with_reducible rfl)
            try simp only [Act.put, List.setIfInBounds_toArray, List.set_cons_zero, List.set_cons_succ]
            refine wpAnyH_take (i := 16) (oi := { dst := some 61, op := Op.indexAddr 51 (Operand.tmp 59) (Operand.tmp 60), type := 0, pos := "ref.go:15", after := #[{ on := 14, ground := Ground.data }, { on := 15, ground := Ground.data }, { on := 6, ground := Ground.guard }], guard := some (6, false) }) (v := ?_) rfl (by kernel_rfl) (by kernel_rfl) (by kernel_rfl) (fun _ _ _ h => h) (Or.inl ⟨by rfl, ?hy38⟩) hS0 ?_
            case hy38 => (intro V hSw; (try dsimp only at hSw); clear hSw; go_simp; try with_reducible rfl)
            try simp only [Act.put, List.setIfInBounds_toArray, List.set_cons_zero, List.set_cons_succ]
            refine wpAnyH_take (i := 17) (oi := { dst := some 62, op := Op.load 3 (Operand.tmp 61), type := 3, pos := "ref.go:15", after := #[{ on := 16, ground := Ground.data }, { on := 6, ground := Ground.guard }], guard := some (6, false) }) (v := ?_) rfl (by kernel_rfl) (by kernel_rfl) (by kernel_rfl) (fun _ _ _ h => h) (Or.inl ⟨by rfl, ?hy39⟩) hS0 ?_
            case hy39 => (intro V hSw; (try dsimp only at hSw); have q0 := grow_cell hSw.out (block_lt_of_cell d0) d0; have q1 := grow_cell hSw.out (block_lt_of_cell cz0) cz0; clear hSw; go_simp; try with_reducible rfl)
            try simp only [Act.put, List.setIfInBounds_toArray, List.set_cons_zero, List.set_cons_succ]
            refine wpAnyH_take (i := 19) (oi := { dst := some 64, op := Op.move (Operand.tmp 8), type := 3, pos := "ref.go:15", after := #[{ on := 6, ground := Ground.guard }], guard := some (6, false) }) (v := ?_) rfl (by kernel_rfl) (by kernel_rfl) (by kernel_rfl) (fun _ _ _ h => h) (Or.inl ⟨by rfl, ?hy40⟩) hS0 ?_
            case hy40 => (intro V hSw; (try dsimp only at hSw); clear hSw; go_simp; try with_reducible rfl)
            try simp only [Act.put, List.setIfInBounds_toArray, List.set_cons_zero, List.set_cons_succ]
            refine wpAnyH_ready (rs := [18]) (by kernel_rfl) (by simp) (AllReadyH.cons rfl (fun K hK => ?_) AllReadyH.nil)
            go_simp
            refine (HGz.out _ Hbqd.out).mono ?_
            rintro e wv ⟨rfl, hv⟩
            have HSv := Lib.hid (Hbqd.out.trans (hv.mono Hbqd.out.size))
            have HBv := Lib.hid (blk_bels hv (drew_blk' HBq.out))
            have HFb := Lib.hid (blk_bset HBv.out hin (getI l u z == (i : Int)))
            have HFw := Lib.hid (HSv.out.setCell (p := ⟨w.heap.size, i, none⟩) (Nat.le_refl _) (.bool (getI l u z == (i : Int))))
            clear hv
            refine hK.out _ _ HSv (fun _ => ?_)
            clear hK K
            try simp only [Act.put, List.setIfInBounds_toArray, List.set_cons_zero, List.set_cons_succ]
            refine wpAnyH_take (i := 20) (oi := { dst := some 65, op := Op.binOp BinOp.eql 3 (Operand.tmp 63) (Operand.tmp 64) 3, type := 4, pos := "ref.go:15", after := #[{ on := 18, ground := Ground.data }, { on := 19, ground := Ground.data }, { on := 6, ground := Ground.guard }], guard := some (6, false) }) (v := ?_) rfl (by kernel_rfl) (by kernel_rfl) (by kernel_rfl) (fun _ _ _ h => h) (Or.inl ⟨by rfl, ?hy42⟩) HSv ?_
            case hy42 => (intro V hSw; (try dsimp only at hSw); clear hSw; go_simp; try with_reducible rfl)
            try simp only [Act.put, List.setIfInBounds_toArray, List.set_cons_zero, List.set_cons_succ]
            refine wpAnyH_take (i := 21) (oi := { dst := some 66, op := Op.pick (Operand.tmp 51) (Operand.const (Value.bool true)) (Operand.tmp 65), type := 4, pos := "ref.go:15", after := #[{ on := 6, ground := Ground.data }, { on := 20, ground := Ground.data }], guard := none }) (v := ?_) rfl (by kernel_rfl) (by kernel_rfl) (by kernel_rfl) (fun _ _ _ h => h) (Or.inl ⟨by rfl, ?hy43⟩) HSv ?_
            case hy43 => (intro V hSw; (try dsimp only at hSw); clear hSw; go_simp; try with_reducible rfl)
            try simp only [Act.put, List.setIfInBounds_toArray, List.set_cons_zero, List.set_cons_succ]
            refine wpAnyH_take (i := 22) (oi := { dst := some 67, op := Op.indexAddr 103 (Operand.tmp 45) (Operand.tmp 46), type := 0, pos := "ref.go:15", after := #[{ on := 0, ground := Ground.data }, { on := 1, ground := Ground.data }, { on := 0, ground := Ground.phase }, { on := 1, ground := Ground.phase }, { on := 2, ground := Ground.phase }, { on := 3, ground := Ground.phase }, { on := 4, ground := Ground.phase }, { on := 5, ground := Ground.phase }, { on := 6, ground := Ground.phase }, { on := 7, ground := Ground.phase }, { on := 8, ground := Ground.phase }, { on := 9, ground := Ground.phase }, { on := 10, ground := Ground.phase }, { on := 11, ground := Ground.phase }, { on := 12, ground := Ground.phase }, { on := 13, ground := Ground.phase }, { on := 14, ground := Ground.phase }, { on := 15, ground := Ground.phase }, { on := 16, ground := Ground.phase }, { on := 17, ground := Ground.phase }, { on := 18, ground := Ground.phase }, { on := 19, ground := Ground.phase }, { on := 20, ground := Ground.phase }, { on := 21, ground := Ground.phase }], guard := none }) (v := ?_) rfl (by kernel_rfl) (by kernel_rfl) (by kernel_rfl) (fun _ _ _ h => h) (Or.inl ⟨by rfl, ?hy44⟩) HSv ?_
            case hy44 => (intro V hSw; (try dsimp only at hSw); clear hSw; go_simp; try with_reducible rfl)
            try simp only [Act.put, List.setIfInBounds_toArray, List.set_cons_zero, List.set_cons_succ]
            refine wpAnyH_ready (rs := [23]) (by kernel_rfl) (by simp) (AllReadyH.cons rfl (fun K hK => ?_) AllReadyH.nil)
            have kv := (cell_of_blk HBv.out i).trans (bA_get _ hin)
            have kz := frozen_of_blk HBv.out i
            go_simp
            refine hK.out _ _ HFw (fun _ => ?_)
            clear hK K
            try simp only [Act.put, List.setIfInBounds_toArray, List.set_cons_zero, List.set_cons_succ]
            refine wpAnyH_done (by kernel_rfl) ?_ _
            go_wp2_with fail
            go_roundw
            case rel => exact ⟨j + 1, by omega, by go_num, by rw [Hcg.out]; exact HFb.out, HFw.out⟩
            case measure => simp [intOf]; omega
        · obtain rfl : j = m := by omega
          have HN : Hid (wq.heap[w.heap.size]? = some (.cells (bA n (k0B l zs (i + 1))) 4 (0, 0))) := Lib.hid (by
            rw [bA_congr (B' := fun k => if k = i then k0T l zs i j else k0B l zs i k) (fun k hk => by
              unfold k0B
              by_cases e : k = i
              · subst e; rw [if_pos (Nat.lt_succ_self _), if_pos rfl, Hm.out, k0T_all]
              · rw [if_neg e]
                by_cases e2 : k < i
                · rw [if_pos e2, if_pos (by omega)]
                · rw [if_neg e2, if_neg (by omega)])]
            exact HBq.out)
          go_wp2_with fail
          go_roundw
          case rel => exact ⟨i + 1, by omega, by go_num, HN.out, Hbq.out⟩
          case measure => simp [intOf]; omega
    · obtain rfl : i = n := by omega
      obtain ⟨cv, hcv⟩ : ∃ cv : ByteArray → Bool, cv = fun u => ds.any fun d => decide (d = u) := ⟨_, rfl⟩
      obtain ⟨A, hA⟩ : ∃ A : List Mk, A = (List.range i).map fun j => (l.getD j En.nil, k0 l zs j) := ⟨_, rfl⟩
      have hAl : A.length = i := by rw [hA, List.length_map, List.length_range]
      have hAat : ∀ k, k < i → A[k]? = some (l.getD k En.nil, k0 l zs k) := fun k hk => by rw [hA, List.getElem?_map, List.getElem?_range hk]; rfl
      have HAl := Lib.hid hAl
      have HAat := Lib.hid hAat
      have Hcv := Lib.hid hcv
      have HAE := Lib.hid hA
      have HB3 : Hid (wo.heap[w.heap.size]? = some (.cells (bA i (fB l zs cv A i)) 4 (0, 0))) := Lib.hid (by
        rw [bA_congr (B' := k0B l zs i) (fun k hk => by unfold k0B fB; rw [if_pos hk, if_pos hk])]
        exact HB.out)
      have hws : IntKind.i64.wrap ((i : Int) - 1) = (i : Int) - 1 := IntWalk.i64_in _ (by omega)
      clear hAl hAat hcv hA HB hin
      go_wp2_with fail
      clear hws
      go_loopw [10] (fun tv wr => ∃ p : Nat, p ≤ i ∧ tv = .int .i64 ((p : Int) - 1) ∧ wr.heap[w.heap.size]? = some (.cells (bA i (fB l zs cv A p)) 4 (0, 0)) ∧ Below w.heap.size w wr) (fun tv _ => (intOf tv + 1).toNat)
      case atStart => exact ⟨i, Nat.le_refl _, rfl, HB3.out, Hb.out⟩
      case round =>
        clear HB3 Hb HG
        obtain ⟨wt, rfl⟩ : ∃ wt : World, wt = wr := ⟨_, rfl⟩
        obtain ⟨p, hp, rfl, hBt, hbt⟩ := hrel
        have HBt := Lib.hid hBt
        have Hbt := Lib.hid hbt
        clear hBt hbt
        by_cases hp0 : 0 < p
        · obtain ⟨t, rfl⟩ : ∃ t, p = t + 1 := ⟨p - 1, by omega⟩
          rw [show ((t + 1 : Nat) : Int) - 1 = (t : Int) from by omega]
          obtain ⟨b, off, rfl, hcell⟩ := Hx.out (by omega)
          obtain ⟨x, hxt⟩ : ∃ x, l[t]? = some x := ⟨_, List.getElem?_eq_getElem (by rw [← Hn.out]; omega)⟩
          have hgd : l.getD t En.nil = x := by rw [List.getD_eq_getElem?_getD, hxt]; rfl
          have hAt := HAat.out t (by omega)
          rw [hgd] at hAt
          have hfin := finK_at cv A hAt
          rw [HAl.out] at hfin
          have Hcw := Lib.hid (fun (V : World) (hV : Below w.heap.size w V) j (y : En) (hy : l[j]? = some y) => IsEs.row (w := V) (fun i x hi j y hj => (hV.cell (block_lt_of_cell (hcell i x hi j y hj))).trans (hcell i x hi j y hj)) hy)
          have hws : IntKind.i64.wrap ((t : Int) - 1) = (t : Int) - 1 := IntWalk.i64_in _ (by omega)
          have ht0 : (0 : Int) ≤ (t : Int) := by omega
          have hti : (t : Int) < (i : Int) := by omega
          have htn : t < i := by omega
          obtain ⟨⟨u, s, kd⟩, val⟩ := x
          dsimp only at hfin
          have Hfin := Lib.hid hfin
          have Hxt := Lib.hid hxt
          clear hcell hxt hgd hAt hfin hp0 hp
          go_wp2_with fail
          go_loopw [11, 13] (fun ev kv wr => ∃ k : Nat, t + 1 ≤ k ∧ k ≤ i ∧ kv = .int .i64 k ∧ ev = .bool (elderK cv A u t (k - (t + 1))) ∧ wr.heap[w.heap.size]? = some (.cells (bA i (fB l zs cv A (t + 1))) 4 (0, 0)) ∧ Below w.heap.size w wr) (fun _ kv _ => i - (intOf kv).toNat)
          case atStart => exact ⟨t + 1, Nat.le_refl _, htn, by go_num, by rw [Nat.sub_self, elderK_zero], HBt.out, Hbt.out⟩
          case round =>
            clear HBt Hbt
            obtain ⟨wq, rfl⟩ : ∃ wq : World, wq = wr := ⟨_, rfl⟩
            obtain ⟨k, hk1, hk2, rfl, rfl, hBq, hbq⟩ := hrel
            have HBq := Lib.hid hBq
            have Hbq := Lib.hid hbq
            clear hBq hbq
            obtain ⟨old, hold⟩ : ∃ o, o = elderK cv A u t (k - (t + 1)) := ⟨_, rfl⟩
            rw [← hold]
            have Hold := Lib.hid hold
            clear hold
            by_cases hki : k < i
            · obtain ⟨y, hy⟩ : ∃ y, l[k]? = some y := ⟨_, List.getElem?_eq_getElem (by rw [← Hn.out]; exact hki)⟩
              have hgk : l.getD k En.nil = y := by rw [List.getD_eq_getElem?_getD, hy]; rfl
              have hAk := HAat.out k hki
              rw [hgk] at hAk
              obtain ⟨fk, hfk⟩ : ∃ fk, (finK cv A)[k]? = some (y, fk) := ⟨_, finK_at cv A hAk⟩
              have hst := elderK_succ cv A u (i := t) (k := k - (t + 1)) (y := (y, fk)) (by rw [show t + 1 + (k - (t + 1)) = k from by omega]; exact hfk)
              rw [← Hold.out, show k - (t + 1) + 1 = k + 1 - (t + 1) from by omega] at hst
              have Hst := Lib.hid hst
              obtain ⟨d0, -, -, -⟩ := Hcw.out wq Hbq.out k _ hy
              obtain ⟨e0, -, -, -⟩ := Hcw.out wq Hbq.out t _ Hxt.out
              have kc : wq.cell? ⟨w.heap.size, k, none⟩ = some (.bool fk) := (cell_of_blk HBq.out k).trans ((bA_get _ hki).trans (by rw [fB_ge hfk (by omega)]))
              have hki2 : (k : Int) < (i : Int) := by omega
              clear hst hfk hAk hy hgk
              obtain ⟨⟨yu, ys, yk⟩, val2⟩ := y
              dsimp only at Hst d0 e0
              go_upto_region 17 with fail
              cases old with
              | true =>
                have Hst2 : Hid (elderK cv A u t (k + 1 - (t + 1)) = true) := Lib.hid (by rw [Hst.out]; rfl)
                clear Hst Hold
                refine wp_region_held_drew (S := fun V' => Hid (Below wq.heap.size wq V')) (by kernel_rfl) (Lib.hid ((Below.refl _ _).drew)) (fun hS0 => ?_)
                refine wpAnyH_take (i := 0) (oi := { dst := some 83, op := Op.move (Operand.tmp 11), type := 4, pos := "ref.go:21", after := #[], guard := none }) (v := ?_) rfl (by kernel_rfl) (by kernel_rfl) (by kernel_rfl) (fun _ _ _ h => h) (Or.inl ⟨by rfl, ?hy45⟩) hS0 ?_
                case hy45 => (intro V hSw; (try dsimp only at hSw); clear hSw; go_simp; try with_reducible rfl)
                try simp only [Act.put, List.setIfInBounds_toArray, List.set_cons_zero, List.set_cons_succ]
                refine wpAnyH_take (i := 1) (oi := { dst := some 84, op := Op.move (Operand.tmp 83), type := 4, pos := "ref.go:21", after := #[{ on := 0, ground := Ground.data }], guard := none }) (v := ?_) rfl (by kernel_rfl) (by kernel_rfl) (by kernel_rfl) (fun _ _ _ h => h) (Or.inl ⟨by rfl, ?hy46⟩) hS0 ?_
                case hy46 => (intro V hSw; (try dsimp only at hSw); clear hSw; go_simp; try with_reducible rfl)
                try simp only [Act.put, List.setIfInBounds_toArray, List.set_cons_zero, List.set_cons_succ]
                refine wpAnyH_take (i := 2) (oi := { dst := some 85, op := Op.move (Operand.tmp 0), type := 62, pos := "ref.go:21", after := #[{ on := 1, ground := Ground.guard }], guard := some (1, false) }) (v := undef) rfl (by kernel_rfl) (by kernel_rfl) (by kernel_rfl) (fun _ _ _ h => h) (Or.inr ⟨by rfl, rfl⟩) hS0 ?_
                try simp only [Act.put, List.setIfInBounds_toArray, List.set_cons_zero, List.set_cons_succ]
                refine wpAnyH_take (i := 3) (oi := { dst := some 86, op := Op.move (Operand.tmp 13), type := 3, pos := "ref.go:21", after := #[{ on := 1, ground := Ground.guard }], guard := some (1, false) }) (v := undef) rfl (by kernel_rfl) (by kernel_rfl) (by kernel_rfl) (fun _ _ _ h => h) (Or.inr ⟨by rfl, rfl⟩) hS0 ?_
                try simp only [Act.put, List.setIfInBounds_toArray, List.set_cons_zero, List.set_cons_succ]
                refine wpAnyH_take (i := 4) (oi := { dst := some 87, op := Op.indexAddr 62 (Operand.tmp 85) (Operand.tmp 86), type := 0, pos := "ref.go:21", after := #[{ on := 2, ground := Ground.data }, { on := 3, ground := Ground.data }, { on := 1, ground := Ground.guard }], guard := some (1, false) }) (v := undef) rfl (by kernel_rfl) (by kernel_rfl) (by kernel_rfl) (fun _ _ _ h => h) (Or.inr ⟨by rfl, rfl⟩) hS0 ?_
                try simp only [Act.put, List.setIfInBounds_toArray, List.set_cons_zero, List.set_cons_succ]
                refine wpAnyH_take (i := 5) (oi := { dst := some 88, op := Op.fieldAddr 67 (Operand.tmp 87) 0, type := 0, pos := "ref.go:21", after := #[{ on := 4, ground := Ground.data }, { on := 1, ground := Ground.guard }], guard := some (1, false) }) (v := undef) rfl (by kernel_rfl) (by kernel_rfl) (by kernel_rfl) (fun _ _ _ h => h) (Or.inr ⟨by rfl, rfl⟩) hS0 ?_
                try simp only [Act.put, List.setIfInBounds_toArray, List.set_cons_zero, List.set_cons_succ]
                refine wpAnyH_take (i := 6) (oi := { dst := some 89, op := Op.fieldAddr 65 (Operand.tmp 88) 0, type := 0, pos := "ref.go:21", after := #[{ on := 5, ground := Ground.data }, { on := 1, ground := Ground.guard }], guard := some (1, false) }) (v := undef) rfl (by kernel_rfl) (by kernel_rfl) (by kernel_rfl) (fun _ _ _ h => h) (Or.inr ⟨by rfl, rfl⟩) hS0 ?_
                try simp only [Act.put, List.setIfInBounds_toArray, List.set_cons_zero, List.set_cons_succ]
                refine wpAnyH_take (i := 7) (oi := { dst := some 90, op := Op.load 9 (Operand.tmp 89), type := 9, pos := "ref.go:21", after := #[{ on := 6, ground := Ground.data }, { on := 1, ground := Ground.guard }], guard := some (1, false) }) (v := undef) rfl (by kernel_rfl) (by kernel_rfl) (by kernel_rfl) (fun _ _ _ h => h) (Or.inr ⟨by rfl, rfl⟩) hS0 ?_
                try simp only [Act.put, List.setIfInBounds_toArray, List.set_cons_zero, List.set_cons_succ]
                refine wpAnyH_take (i := 8) (oi := { dst := some 91, op := Op.move (Operand.tmp 0), type := 62, pos := "ref.go:21", after := #[{ on := 1, ground := Ground.guard }], guard := some (1, false) }) (v := undef) rfl (by kernel_rfl) (by kernel_rfl) (by kernel_rfl) (fun _ _ _ h => h) (Or.inr ⟨by rfl, rfl⟩) hS0 ?_
                try simp only [Act.put, List.setIfInBounds_toArray, List.set_cons_zero, List.set_cons_succ]
                refine wpAnyH_take (i := 9) (oi := { dst := some 92, op := Op.move (Operand.tmp 10), type := 3, pos := "ref.go:21", after := #[{ on := 1, ground := Ground.guard }], guard := some (1, false) }) (v := undef) rfl (by kernel_rfl) (by kernel_rfl) (by kernel_rfl) (fun _ _ _ h => h) (Or.inr ⟨by rfl, rfl⟩) hS0 ?_
                try simp only [Act.put, List.setIfInBounds_toArray, List.set_cons_zero, List.set_cons_succ]
                refine wpAnyH_take (i := 10) (oi := { dst := some 93, op := Op.indexAddr 62 (Operand.tmp 91) (Operand.tmp 92), type := 0, pos := "ref.go:21", after := #[{ on := 8, ground := Ground.data }, { on := 9, ground := Ground.data }, { on := 1, ground := Ground.guard }], guard := some (1, false) }) (v := undef) rfl (by kernel_rfl) (by kernel_rfl) (by kernel_rfl) (fun _ _ _ h => h) (Or.inr ⟨by rfl, rfl⟩) hS0 ?_
                try simp only [Act.put, List.setIfInBounds_toArray, List.set_cons_zero, List.set_cons_succ]
                refine wpAnyH_take (i := 11) (oi := { dst := some 94, op := Op.fieldAddr 67 (Operand.tmp 93) 0, type := 0, pos := "ref.go:21", after := #[{ on := 10, ground := Ground.data }, { on := 1, ground := Ground.guard }], guard := some (1, false) }) (v := undef) rfl (by kernel_rfl) (by kernel_rfl) (by kernel_rfl) (fun _ _ _ h => h) (Or.inr ⟨by rfl, rfl⟩) hS0 ?_
                try simp only [Act.put, List.setIfInBounds_toArray, List.set_cons_zero, List.set_cons_succ]
                refine wpAnyH_take (i := 12) (oi := { dst := some 95, op := Op.fieldAddr 65 (Operand.tmp 94) 0, type := 0, pos := "ref.go:21", after := #[{ on := 11, ground := Ground.data }, { on := 1, ground := Ground.guard }], guard := some (1, false) }) (v := undef) rfl (by kernel_rfl) (by kernel_rfl) (by kernel_rfl) (fun _ _ _ h => h) (Or.inr ⟨by rfl, rfl⟩) hS0 ?_
                try simp only [Act.put, List.setIfInBounds_toArray, List.set_cons_zero, List.set_cons_succ]
                refine wpAnyH_take (i := 13) (oi := { dst := some 96, op := Op.load 9 (Operand.tmp 95), type := 9, pos := "ref.go:21", after := #[{ on := 12, ground := Ground.data }, { on := 1, ground := Ground.guard }], guard := some (1, false) }) (v := undef) rfl (by kernel_rfl) (by kernel_rfl) (by kernel_rfl) (fun _ _ _ h => h) (Or.inr ⟨by rfl, rfl⟩) hS0 ?_
                try simp only [Act.put, List.setIfInBounds_toArray, List.set_cons_zero, List.set_cons_succ]
                refine wpAnyH_take (i := 14) (oi := { dst := some 97, op := Op.binOp BinOp.eql 9 (Operand.tmp 90) (Operand.tmp 96) 9, type := 4, pos := "ref.go:21", after := #[{ on := 7, ground := Ground.data }, { on := 13, ground := Ground.data }, { on := 1, ground := Ground.guard }], guard := some (1, false) }) (v := undef) rfl (by kernel_rfl) (by kernel_rfl) (by kernel_rfl) (fun _ _ _ h => h) (Or.inr ⟨by rfl, rfl⟩) hS0 ?_
                try simp only [Act.put, List.setIfInBounds_toArray, List.set_cons_zero, List.set_cons_succ]
                refine wpAnyH_take (i := 15) (oi := { dst := some 98, op := Op.move (Operand.tmp 97), type := 4, pos := "ref.go:21", after := #[{ on := 14, ground := Ground.data }, { on := 1, ground := Ground.chain }, { on := 1, ground := Ground.guard }], guard := some (1, false) }) (v := undef) rfl (by kernel_rfl) (by kernel_rfl) (by kernel_rfl) (fun _ _ _ h => h) (Or.inr ⟨by rfl, rfl⟩) hS0 ?_
                try simp only [Act.put, List.setIfInBounds_toArray, List.set_cons_zero, List.set_cons_succ]
                refine wpAnyH_take (i := 16) (oi := { dst := some 99, op := Op.move (Operand.tmp 7), type := 103, pos := "ref.go:21", after := #[{ on := 15, ground := Ground.guard }], guard := some (15, true) }) (v := undef) rfl (by kernel_rfl) (by kernel_rfl) (by kernel_rfl) (fun _ _ _ h => h) (Or.inr ⟨by rfl, rfl⟩) hS0 ?_
                try simp only [Act.put, List.setIfInBounds_toArray, List.set_cons_zero, List.set_cons_succ]
                refine wpAnyH_take (i := 17) (oi := { dst := some 100, op := Op.move (Operand.tmp 13), type := 3, pos := "ref.go:21", after := #[{ on := 15, ground := Ground.guard }], guard := some (15, true) }) (v := undef) rfl (by kernel_rfl) (by kernel_rfl) (by kernel_rfl) (fun _ _ _ h => h) (Or.inr ⟨by rfl, rfl⟩) hS0 ?_
                try simp only [Act.put, List.setIfInBounds_toArray, List.set_cons_zero, List.set_cons_succ]
                refine wpAnyH_take (i := 18) (oi := { dst := some 101, op := Op.indexAddr 103 (Operand.tmp 99) (Operand.tmp 100), type := 0, pos := "ref.go:21", after := #[{ on := 16, ground := Ground.data }, { on := 17, ground := Ground.data }, { on := 15, ground := Ground.guard }], guard := some (15, true) }) (v := undef) rfl (by kernel_rfl) (by kernel_rfl) (by kernel_rfl) (fun _ _ _ h => h) (Or.inr ⟨by rfl, rfl⟩) hS0 ?_
                try simp only [Act.put, List.setIfInBounds_toArray, List.set_cons_zero, List.set_cons_succ]
                refine wpAnyH_take (i := 19) (oi := { dst := some 102, op := Op.load 4 (Operand.tmp 101), type := 4, pos := "ref.go:21", after := #[{ on := 18, ground := Ground.data }, { on := 15, ground := Ground.guard }], guard := some (15, true) }) (v := undef) rfl (by kernel_rfl) (by kernel_rfl) (by kernel_rfl) (fun _ _ _ h => h) (Or.inr ⟨by rfl, rfl⟩) hS0 ?_
                try simp only [Act.put, List.setIfInBounds_toArray, List.set_cons_zero, List.set_cons_succ]
                refine wpAnyH_take (i := 20) (oi := { dst := some 103, op := Op.pick (Operand.tmp 98) (Operand.tmp 102) (Operand.const (Value.bool false)), type := 4, pos := "ref.go:21", after := #[{ on := 15, ground := Ground.data }, { on := 19, ground := Ground.data }, { on := 1, ground := Ground.guard }], guard := some (1, false) }) (v := undef) rfl (by kernel_rfl) (by kernel_rfl) (by kernel_rfl) (fun _ _ _ h => h) (Or.inr ⟨by rfl, rfl⟩) hS0 ?_
                try simp only [Act.put, List.setIfInBounds_toArray, List.set_cons_zero, List.set_cons_succ]
                refine wpAnyH_take (i := 21) (oi := { dst := some 104, op := Op.pick (Operand.tmp 84) (Operand.const (Value.bool true)) (Operand.tmp 103), type := 4, pos := "ref.go:21", after := #[{ on := 1, ground := Ground.data }, { on := 20, ground := Ground.data }], guard := none }) (v := ?_) rfl (by kernel_rfl) (by kernel_rfl) (by kernel_rfl) (fun _ _ _ h => h) (Or.inl ⟨by rfl, ?hy66⟩) hS0 ?_
                case hy66 => (intro V hSw; (try dsimp only at hSw); clear hSw; go_simp; try with_reducible rfl)
                try simp only [Act.put, List.setIfInBounds_toArray, List.set_cons_zero, List.set_cons_succ]
                refine wpAnyH_ready (rs := [22]) (by kernel_rfl) (by simp) (AllReadyH.cons rfl (fun K hK => ?_) AllReadyH.nil)
                go_simp
                refine hK.out _ _ hS0 (fun _ => ?_)
                clear hK K
                try simp only [Act.put, List.setIfInBounds_toArray, List.set_cons_zero, List.set_cons_succ]
                refine wpAnyH_done (by kernel_rfl) ?_ _
                have HbE := Lib.hid (Hbq.out.trans (hS0.out.mono Hbq.out.size))
                have HBE := Lib.hid (blk_bels hS0.out HBq.out)
                clear d0 e0 kc hS0
                go_wp2_with fail
                go_roundw
                case rel => exact ⟨k + 1, by omega, by omega, by go_num, by rw [Hst2.out], HBE.out, HbE.out⟩
                case measure => simp [intOf]; omega
              | false =>
                by_cases hue : yu = u
                · have Hst2 : Hid (elderK cv A u t (k + 1 - (t + 1)) = fk) := Lib.hid (by rw [Hst.out, decide_eq_true hue]; rfl)
                  clear Hst Hold
                  subst hue
                  refine wp_region_held_drew (S := fun V' => Hid (Below wq.heap.size wq V')) (by kernel_rfl) (Lib.hid ((Below.refl _ _).drew)) (fun hS0 => ?_)
                  refine wpAnyH_take (i := 0) (oi := { dst := some 83, op := Op.move (Operand.tmp 11), type := 4, pos := "ref.go:21", after := #[], guard := none }) (v := ?_) rfl (by kernel_rfl) (by kernel_rfl) (by kernel_rfl) (fun _ _ _ h => h) (Or.inl ⟨by rfl, ?hy89⟩) hS0 ?_
                  case hy89 => (intro V hSw; (try dsimp only at hSw); clear hSw; go_simp; try with_reducible rfl)
                  try simp only [Act.put, List.setIfInBounds_toArray, List.set_cons_zero, List.set_cons_succ]
                  refine wpAnyH_take (i := 1) (oi := { dst := some 84, op := Op.move (Operand.tmp 83), type := 4, pos := "ref.go:21", after := #[{ on := 0, ground := Ground.data }], guard := none }) (v := ?_) rfl (by kernel_rfl) (by kernel_rfl) (by kernel_rfl) (fun _ _ _ h => h) (Or.inl ⟨by rfl, ?hy90⟩) hS0 ?_
                  case hy90 => (intro V hSw; (try dsimp only at hSw); clear hSw; go_simp; try with_reducible rfl)
                  try simp only [Act.put, List.setIfInBounds_toArray, List.set_cons_zero, List.set_cons_succ]
                  refine wpAnyH_take (i := 2) (oi := { dst := some 85, op := Op.move (Operand.tmp 0), type := 62, pos := "ref.go:21", after := #[{ on := 1, ground := Ground.guard }], guard := some (1, false) }) (v := ?_) rfl (by kernel_rfl) (by kernel_rfl) (by kernel_rfl) (fun _ _ _ h => h) (Or.inl ⟨by rfl, ?hy91⟩) hS0 ?_
                  case hy91 => (intro V hSw; (try dsimp only at hSw); clear hSw; go_simp; try with_reducible rfl)
                  try simp only [Act.put, List.setIfInBounds_toArray, List.set_cons_zero, List.set_cons_succ]
                  refine wpAnyH_take (i := 3) (oi := { dst := some 86, op := Op.move (Operand.tmp 13), type := 3, pos := "ref.go:21", after := #[{ on := 1, ground := Ground.guard }], guard := some (1, false) }) (v := ?_) rfl (by kernel_rfl) (by kernel_rfl) (by kernel_rfl) (fun _ _ _ h => h) (Or.inl ⟨by rfl, ?hy92⟩) hS0 ?_
                  case hy92 => (intro V hSw; (try dsimp only at hSw); clear hSw; go_simp; try with_reducible rfl)
                  try simp only [Act.put, List.setIfInBounds_toArray, List.set_cons_zero, List.set_cons_succ]
                  refine wpAnyH_take (i := 4) (oi := { dst := some 87, op := Op.indexAddr 62 (Operand.tmp 85) (Operand.tmp 86), type := 0, pos := "ref.go:21", after := #[{ on := 2, ground := Ground.data }, { on := 3, ground := Ground.data }, { on := 1, ground := Ground.guard }], guard := some (1, false) }) (v := ?_) rfl (by kernel_rfl) (by kernel_rfl) (by kernel_rfl) (fun _ _ _ h => h) (Or.inl ⟨by rfl, ?hy93⟩) hS0 ?_
                  case hy93 => (intro V hSw; (try dsimp only at hSw); clear hSw; go_simp; try with_reducible rfl)
                  try simp only [Act.put, List.setIfInBounds_toArray, List.set_cons_zero, List.set_cons_succ]
                  refine wpAnyH_take (i := 5) (oi := { dst := some 88, op := Op.fieldAddr 67 (Operand.tmp 87) 0, type := 0, pos := "ref.go:21", after := #[{ on := 4, ground := Ground.data }, { on := 1, ground := Ground.guard }], guard := some (1, false) }) (v := ?_) rfl (by kernel_rfl) (by kernel_rfl) (by kernel_rfl) (fun _ _ _ h => h) (Or.inl ⟨by rfl, ?hy94⟩) hS0 ?_
                  case hy94 => (intro V hSw; (try dsimp only at hSw); clear hSw; go_simp; try with_reducible rfl)
                  try simp only [Act.put, List.setIfInBounds_toArray, List.set_cons_zero, List.set_cons_succ]
                  refine wpAnyH_take (i := 6) (oi := { dst := some 89, op := Op.fieldAddr 65 (Operand.tmp 88) 0, type := 0, pos := "ref.go:21", after := #[{ on := 5, ground := Ground.data }, { on := 1, ground := Ground.guard }], guard := some (1, false) }) (v := ?_) rfl (by kernel_rfl) (by kernel_rfl) (by kernel_rfl) (fun _ _ _ h => h) (Or.inl ⟨by rfl, ?hy95⟩) hS0 ?_
                  case hy95 => (intro V hSw; (try dsimp only at hSw); clear hSw; go_simp; try with_reducible rfl)
                  try simp only [Act.put, List.setIfInBounds_toArray, List.set_cons_zero, List.set_cons_succ]
                  refine wpAnyH_take (i := 7) (oi := { dst := some 90, op := Op.load 9 (Operand.tmp 89), type := 9, pos := "ref.go:21", after := #[{ on := 6, ground := Ground.data }, { on := 1, ground := Ground.guard }], guard := some (1, false) }) (v := ?_) rfl (by kernel_rfl) (by kernel_rfl) (by kernel_rfl) (fun _ _ _ h => h) (Or.inl ⟨by rfl, ?hy96⟩) hS0 ?_
                  case hy96 => (intro V hSw; (try dsimp only at hSw); have q0 := grow_cell hSw.out (block_lt_of_cell d0) d0; have q1 := grow_cell hSw.out (block_lt_of_cell e0) e0; have q2 := grow_cell hSw.out (block_lt_of_cell kc) kc; clear hSw; go_simp; try with_reducible rfl)
                  try simp only [Act.put, List.setIfInBounds_toArray, List.set_cons_zero, List.set_cons_succ]
                  refine wpAnyH_take (i := 8) (oi := { dst := some 91, op := Op.move (Operand.tmp 0), type := 62, pos := "ref.go:21", after := #[{ on := 1, ground := Ground.guard }], guard := some (1, false) }) (v := ?_) rfl (by kernel_rfl) (by kernel_rfl) (by kernel_rfl) (fun _ _ _ h => h) (Or.inl ⟨by rfl, ?hy97⟩) hS0 ?_
                  case hy97 => (intro V hSw; (try dsimp only at hSw); clear hSw; go_simp; try with_reducible rfl)
                  try simp only [Act.put, List.setIfInBounds_toArray, List.set_cons_zero, List.set_cons_succ]
                  refine wpAnyH_take (i := 9) (oi := { dst := some 92, op := Op.move (Operand.tmp 10), type := 3, pos := "ref.go:21", after := #[{ on := 1, ground := Ground.guard }], guard := some (1, false) }) (v := ?_) rfl (by kernel_rfl) (by kernel_rfl) (by kernel_rfl) (fun _ _ _ h => h) (Or.inl ⟨by rfl, ?hy98⟩) hS0 ?_
                  case hy98 => (intro V hSw; (try dsimp only at hSw); clear hSw; go_simp; try with_reducible rfl)
                  try simp only [Act.put, List.setIfInBounds_toArray, List.set_cons_zero, List.set_cons_succ]
                  refine wpAnyH_take (i := 10) (oi := { dst := some 93, op := Op.indexAddr 62 (Operand.tmp 91) (Operand.tmp 92), type := 0, pos := "ref.go:21", after := #[{ on := 8, ground := Ground.data }, { on := 9, ground := Ground.data }, { on := 1, ground := Ground.guard }], guard := some (1, false) }) (v := ?_) rfl (by kernel_rfl) (by kernel_rfl) (by kernel_rfl) (fun _ _ _ h => h) (Or.inl ⟨by rfl, ?hy99⟩) hS0 ?_
                  case hy99 => (intro V hSw; (try dsimp only at hSw); clear hSw; go_simp; try with_reducible rfl)
                  try simp only [Act.put, List.setIfInBounds_toArray, List.set_cons_zero, List.set_cons_succ]
                  refine wpAnyH_take (i := 11) (oi := { dst := some 94, op := Op.fieldAddr 67 (Operand.tmp 93) 0, type := 0, pos := "ref.go:21", after := #[{ on := 10, ground := Ground.data }, { on := 1, ground := Ground.guard }], guard := some (1, false) }) (v := ?_) rfl (by kernel_rfl) (by kernel_rfl) (by kernel_rfl) (fun _ _ _ h => h) (Or.inl ⟨by rfl, ?hy100⟩) hS0 ?_
                  case hy100 => (intro V hSw; (try dsimp only at hSw); clear hSw; go_simp; try with_reducible rfl)
                  try simp only [Act.put, List.setIfInBounds_toArray, List.set_cons_zero, List.set_cons_succ]
                  refine wpAnyH_take (i := 12) (oi := { dst := some 95, op := Op.fieldAddr 65 (Operand.tmp 94) 0, type := 0, pos := "ref.go:21", after := #[{ on := 11, ground := Ground.data }, { on := 1, ground := Ground.guard }], guard := some (1, false) }) (v := ?_) rfl (by kernel_rfl) (by kernel_rfl) (by kernel_rfl) (fun _ _ _ h => h) (Or.inl ⟨by rfl, ?hy101⟩) hS0 ?_
                  case hy101 => (intro V hSw; (try dsimp only at hSw); clear hSw; go_simp; try with_reducible rfl)
                  try simp only [Act.put, List.setIfInBounds_toArray, List.set_cons_zero, List.set_cons_succ]
                  refine wpAnyH_take (i := 13) (oi := { dst := some 96, op := Op.load 9 (Operand.tmp 95), type := 9, pos := "ref.go:21", after := #[{ on := 12, ground := Ground.data }, { on := 1, ground := Ground.guard }], guard := some (1, false) }) (v := ?_) rfl (by kernel_rfl) (by kernel_rfl) (by kernel_rfl) (fun _ _ _ h => h) (Or.inl ⟨by rfl, ?hy102⟩) hS0 ?_
                  case hy102 => (intro V hSw; (try dsimp only at hSw); have q0 := grow_cell hSw.out (block_lt_of_cell d0) d0; have q1 := grow_cell hSw.out (block_lt_of_cell e0) e0; have q2 := grow_cell hSw.out (block_lt_of_cell kc) kc; clear hSw; go_simp; try with_reducible rfl)
                  try simp only [Act.put, List.setIfInBounds_toArray, List.set_cons_zero, List.set_cons_succ]
                  refine wpAnyH_take (i := 14) (oi := { dst := some 97, op := Op.binOp BinOp.eql 9 (Operand.tmp 90) (Operand.tmp 96) 9, type := 4, pos := "ref.go:21", after := #[{ on := 7, ground := Ground.data }, { on := 13, ground := Ground.data }, { on := 1, ground := Ground.guard }], guard := some (1, false) }) (v := ?_) rfl (by kernel_rfl) (by kernel_rfl) (by kernel_rfl) (fun _ _ _ h => h) (Or.inl ⟨by rfl, ?hy103⟩) hS0 ?_
                  case hy103 => (intro V hSw; (try dsimp only at hSw); clear hSw; go_simp; try with_reducible rfl)
                  try simp only [Act.put, List.setIfInBounds_toArray, List.set_cons_zero, List.set_cons_succ]
                  refine wpAnyH_take (i := 15) (oi := { dst := some 98, op := Op.move (Operand.tmp 97), type := 4, pos := "ref.go:21", after := #[{ on := 14, ground := Ground.data }, { on := 1, ground := Ground.chain }, { on := 1, ground := Ground.guard }], guard := some (1, false) }) (v := ?_) rfl (by kernel_rfl) (by kernel_rfl) (by kernel_rfl) (fun _ _ _ h => h) (Or.inl ⟨by rfl, ?hy104⟩) hS0 ?_
                  case hy104 => (intro V hSw; (try dsimp only at hSw); clear hSw; go_simp; try with_reducible rfl)
                  try simp only [Act.put, List.setIfInBounds_toArray, List.set_cons_zero, List.set_cons_succ]
                  refine wpAnyH_take (i := 16) (oi := { dst := some 99, op := Op.move (Operand.tmp 7), type := 103, pos := "ref.go:21", after := #[{ on := 15, ground := Ground.guard }], guard := some (15, true) }) (v := ?_) rfl (by kernel_rfl) (by kernel_rfl) (by kernel_rfl) (fun _ _ _ h => h) (Or.inl ⟨by rfl, ?hy105⟩) hS0 ?_
                  case hy105 => (intro V hSw; (try dsimp only at hSw); clear hSw; go_simp; try with_reducible rfl)
                  try simp only [Act.put, List.setIfInBounds_toArray, List.set_cons_zero, List.set_cons_succ]
                  refine wpAnyH_take (i := 17) (oi := { dst := some 100, op := Op.move (Operand.tmp 13), type := 3, pos := "ref.go:21", after := #[{ on := 15, ground := Ground.guard }], guard := some (15, true) }) (v := ?_) rfl (by kernel_rfl) (by kernel_rfl) (by kernel_rfl) (fun _ _ _ h => h) (Or.inl ⟨by rfl, ?hy106⟩) hS0 ?_
                  case hy106 => (intro V hSw; (try dsimp only at hSw); clear hSw; go_simp; try with_reducible rfl)
                  try simp only [Act.put, List.setIfInBounds_toArray, List.set_cons_zero, List.set_cons_succ]
                  refine wpAnyH_take (i := 18) (oi := { dst := some 101, op := Op.indexAddr 103 (Operand.tmp 99) (Operand.tmp 100), type := 0, pos := "ref.go:21", after := #[{ on := 16, ground := Ground.data }, { on := 17, ground := Ground.data }, { on := 15, ground := Ground.guard }], guard := some (15, true) }) (v := ?_) rfl (by kernel_rfl) (by kernel_rfl) (by kernel_rfl) (fun _ _ _ h => h) (Or.inl ⟨by rfl, ?hy107⟩) hS0 ?_
                  case hy107 => (intro V hSw; (try dsimp only at hSw); clear hSw; go_simp; try with_reducible rfl)
                  try simp only [Act.put, List.setIfInBounds_toArray, List.set_cons_zero, List.set_cons_succ]
                  refine wpAnyH_take (i := 19) (oi := { dst := some 102, op := Op.load 4 (Operand.tmp 101), type := 4, pos := "ref.go:21", after := #[{ on := 18, ground := Ground.data }, { on := 15, ground := Ground.guard }], guard := some (15, true) }) (v := ?_) rfl (by kernel_rfl) (by kernel_rfl) (by kernel_rfl) (fun _ _ _ h => h) (Or.inl ⟨by rfl, ?hy108⟩) hS0 ?_
                  case hy108 => (intro V hSw; (try dsimp only at hSw); have q0 := grow_cell hSw.out (block_lt_of_cell d0) d0; have q1 := grow_cell hSw.out (block_lt_of_cell e0) e0; have q2 := grow_cell hSw.out (block_lt_of_cell kc) kc; clear hSw; go_simp; try with_reducible rfl)
                  try simp only [Act.put, List.setIfInBounds_toArray, List.set_cons_zero, List.set_cons_succ]
                  refine wpAnyH_take (i := 20) (oi := { dst := some 103, op := Op.pick (Operand.tmp 98) (Operand.tmp 102) (Operand.const (Value.bool false)), type := 4, pos := "ref.go:21", after := #[{ on := 15, ground := Ground.data }, { on := 19, ground := Ground.data }, { on := 1, ground := Ground.guard }], guard := some (1, false) }) (v := ?_) rfl (by kernel_rfl) (by kernel_rfl) (by kernel_rfl) (fun _ _ _ h => h) (Or.inl ⟨by rfl, ?hy109⟩) hS0 ?_
                  case hy109 => (intro V hSw; (try dsimp only at hSw); clear hSw; go_simp; try with_reducible rfl)
                  try simp only [Act.put, List.setIfInBounds_toArray, List.set_cons_zero, List.set_cons_succ]
                  refine wpAnyH_take (i := 21) (oi := { dst := some 104, op := Op.pick (Operand.tmp 84) (Operand.const (Value.bool true)) (Operand.tmp 103), type := 4, pos := "ref.go:21", after := #[{ on := 1, ground := Ground.data }, { on := 20, ground := Ground.data }], guard := none }) (v := ?_) rfl (by kernel_rfl) (by kernel_rfl) (by kernel_rfl) (fun _ _ _ h => h) (Or.inl ⟨by rfl, ?hy110⟩) hS0 ?_
                  case hy110 => (intro V hSw; (try dsimp only at hSw); clear hSw; go_simp; try with_reducible rfl)
                  try simp only [Act.put, List.setIfInBounds_toArray, List.set_cons_zero, List.set_cons_succ]
                  refine wpAnyH_ready (rs := [22]) (by kernel_rfl) (by simp) (AllReadyH.cons rfl (fun K hK => ?_) AllReadyH.nil)
                  go_simp
                  refine hK.out _ _ hS0 (fun _ => ?_)
                  clear hK K
                  try simp only [Act.put, List.setIfInBounds_toArray, List.set_cons_zero, List.set_cons_succ]
                  refine wpAnyH_done (by kernel_rfl) ?_ _
                  have HbE := Lib.hid (Hbq.out.trans (hS0.out.mono Hbq.out.size))
                  have HBE := Lib.hid (blk_bels hS0.out HBq.out)
                  clear d0 e0 kc hS0
                  go_wp2_with fail
                  go_roundw
                  case rel => exact ⟨k + 1, by omega, by omega, by go_num, by rw [Hst2.out], HBE.out, HbE.out⟩
                  case measure => simp [intOf]; omega
                · have Hst2 : Hid (elderK cv A u t (k + 1 - (t + 1)) = false) := Lib.hid (by rw [Hst.out, decide_eq_false hue]; rfl)
                  have hq := str_no hue
                  clear Hst Hold
                  refine wp_region_held_drew (S := fun V' => Hid (Below wq.heap.size wq V')) (by kernel_rfl) (Lib.hid ((Below.refl _ _).drew)) (fun hS0 => ?_)
                  refine wpAnyH_take (i := 0) (oi := { dst := some 83, op := Op.move (Operand.tmp 11), type := 4, pos := "ref.go:21", after := #[], guard := none }) (v := ?_) rfl (by kernel_rfl) (by kernel_rfl) (by kernel_rfl) (fun _ _ _ h => h) (Or.inl ⟨by rfl, ?hy67⟩) hS0 ?_
                  case hy67 => (intro V hSw; (try dsimp only at hSw); clear hSw; go_simp; try with_reducible rfl)
                  try simp only [Act.put, List.setIfInBounds_toArray, List.set_cons_zero, List.set_cons_succ]
                  refine wpAnyH_take (i := 1) (oi := { dst := some 84, op := Op.move (Operand.tmp 83), type := 4, pos := "ref.go:21", after := #[{ on := 0, ground := Ground.data }], guard := none }) (v := ?_) rfl (by kernel_rfl) (by kernel_rfl) (by kernel_rfl) (fun _ _ _ h => h) (Or.inl ⟨by rfl, ?hy68⟩) hS0 ?_
                  case hy68 => (intro V hSw; (try dsimp only at hSw); clear hSw; go_simp; try with_reducible rfl)
                  try simp only [Act.put, List.setIfInBounds_toArray, List.set_cons_zero, List.set_cons_succ]
                  refine wpAnyH_take (i := 2) (oi := { dst := some 85, op := Op.move (Operand.tmp 0), type := 62, pos := "ref.go:21", after := #[{ on := 1, ground := Ground.guard }], guard := some (1, false) }) (v := ?_) rfl (by kernel_rfl) (by kernel_rfl) (by kernel_rfl) (fun _ _ _ h => h) (Or.inl ⟨by rfl, ?hy69⟩) hS0 ?_
                  case hy69 => (intro V hSw; (try dsimp only at hSw); clear hSw; go_simp; try with_reducible rfl)
                  try simp only [Act.put, List.setIfInBounds_toArray, List.set_cons_zero, List.set_cons_succ]
                  refine wpAnyH_take (i := 3) (oi := { dst := some 86, op := Op.move (Operand.tmp 13), type := 3, pos := "ref.go:21", after := #[{ on := 1, ground := Ground.guard }], guard := some (1, false) }) (v := ?_) rfl (by kernel_rfl) (by kernel_rfl) (by kernel_rfl) (fun _ _ _ h => h) (Or.inl ⟨by rfl, ?hy70⟩) hS0 ?_
                  case hy70 => (intro V hSw; (try dsimp only at hSw); clear hSw; go_simp; try with_reducible rfl)
                  try simp only [Act.put, List.setIfInBounds_toArray, List.set_cons_zero, List.set_cons_succ]
                  refine wpAnyH_take (i := 4) (oi := { dst := some 87, op := Op.indexAddr 62 (Operand.tmp 85) (Operand.tmp 86), type := 0, pos := "ref.go:21", after := #[{ on := 2, ground := Ground.data }, { on := 3, ground := Ground.data }, { on := 1, ground := Ground.guard }], guard := some (1, false) }) (v := ?_) rfl (by kernel_rfl) (by kernel_rfl) (by kernel_rfl) (fun _ _ _ h => h) (Or.inl ⟨by rfl, ?hy71⟩) hS0 ?_
                  case hy71 => (intro V hSw; (try dsimp only at hSw); clear hSw; go_simp; try with_reducible rfl)
                  try simp only [Act.put, List.setIfInBounds_toArray, List.set_cons_zero, List.set_cons_succ]
                  refine wpAnyH_take (i := 5) (oi := { dst := some 88, op := Op.fieldAddr 67 (Operand.tmp 87) 0, type := 0, pos := "ref.go:21", after := #[{ on := 4, ground := Ground.data }, { on := 1, ground := Ground.guard }], guard := some (1, false) }) (v := ?_) rfl (by kernel_rfl) (by kernel_rfl) (by kernel_rfl) (fun _ _ _ h => h) (Or.inl ⟨by rfl, ?hy72⟩) hS0 ?_
                  case hy72 => (intro V hSw; (try dsimp only at hSw); clear hSw; go_simp; try with_reducible rfl)
                  try simp only [Act.put, List.setIfInBounds_toArray, List.set_cons_zero, List.set_cons_succ]
                  refine wpAnyH_take (i := 6) (oi := { dst := some 89, op := Op.fieldAddr 65 (Operand.tmp 88) 0, type := 0, pos := "ref.go:21", after := #[{ on := 5, ground := Ground.data }, { on := 1, ground := Ground.guard }], guard := some (1, false) }) (v := ?_) rfl (by kernel_rfl) (by kernel_rfl) (by kernel_rfl) (fun _ _ _ h => h) (Or.inl ⟨by rfl, ?hy73⟩) hS0 ?_
                  case hy73 => (intro V hSw; (try dsimp only at hSw); clear hSw; go_simp; try with_reducible rfl)
                  try simp only [Act.put, List.setIfInBounds_toArray, List.set_cons_zero, List.set_cons_succ]
                  refine wpAnyH_take (i := 7) (oi := { dst := some 90, op := Op.load 9 (Operand.tmp 89), type := 9, pos := "ref.go:21", after := #[{ on := 6, ground := Ground.data }, { on := 1, ground := Ground.guard }], guard := some (1, false) }) (v := ?_) rfl (by kernel_rfl) (by kernel_rfl) (by kernel_rfl) (fun _ _ _ h => h) (Or.inl ⟨by rfl, ?hy74⟩) hS0 ?_
                  case hy74 => (intro V hSw; (try dsimp only at hSw); have q0 := grow_cell hSw.out (block_lt_of_cell d0) d0; have q1 := grow_cell hSw.out (block_lt_of_cell e0) e0; clear hSw; go_simp; try with_reducible rfl)
                  try simp only [Act.put, List.setIfInBounds_toArray, List.set_cons_zero, List.set_cons_succ]
                  refine wpAnyH_take (i := 8) (oi := { dst := some 91, op := Op.move (Operand.tmp 0), type := 62, pos := "ref.go:21", after := #[{ on := 1, ground := Ground.guard }], guard := some (1, false) }) (v := ?_) rfl (by kernel_rfl) (by kernel_rfl) (by kernel_rfl) (fun _ _ _ h => h) (Or.inl ⟨by rfl, ?hy75⟩) hS0 ?_
                  case hy75 => (intro V hSw; (try dsimp only at hSw); clear hSw; go_simp; try with_reducible rfl)
                  try simp only [Act.put, List.setIfInBounds_toArray, List.set_cons_zero, List.set_cons_succ]
                  refine wpAnyH_take (i := 9) (oi := { dst := some 92, op := Op.move (Operand.tmp 10), type := 3, pos := "ref.go:21", after := #[{ on := 1, ground := Ground.guard }], guard := some (1, false) }) (v := ?_) rfl (by kernel_rfl) (by kernel_rfl) (by kernel_rfl) (fun _ _ _ h => h) (Or.inl ⟨by rfl, ?hy76⟩) hS0 ?_
                  case hy76 => (intro V hSw; (try dsimp only at hSw); clear hSw; go_simp; try with_reducible rfl)
                  try simp only [Act.put, List.setIfInBounds_toArray, List.set_cons_zero, List.set_cons_succ]
                  refine wpAnyH_take (i := 10) (oi := { dst := some 93, op := Op.indexAddr 62 (Operand.tmp 91) (Operand.tmp 92), type := 0, pos := "ref.go:21", after := #[{ on := 8, ground := Ground.data }, { on := 9, ground := Ground.data }, { on := 1, ground := Ground.guard }], guard := some (1, false) }) (v := ?_) rfl (by kernel_rfl) (by kernel_rfl) (by kernel_rfl) (fun _ _ _ h => h) (Or.inl ⟨by rfl, ?hy77⟩) hS0 ?_
                  case hy77 => (intro V hSw; (try dsimp only at hSw); clear hSw; go_simp; try with_reducible rfl)
                  try simp only [Act.put, List.setIfInBounds_toArray, List.set_cons_zero, List.set_cons_succ]
                  refine wpAnyH_take (i := 11) (oi := { dst := some 94, op := Op.fieldAddr 67 (Operand.tmp 93) 0, type := 0, pos := "ref.go:21", after := #[{ on := 10, ground := Ground.data }, { on := 1, ground := Ground.guard }], guard := some (1, false) }) (v := ?_) rfl (by kernel_rfl) (by kernel_rfl) (by kernel_rfl) (fun _ _ _ h => h) (Or.inl ⟨by rfl, ?hy78⟩) hS0 ?_
                  case hy78 => (intro V hSw; (try dsimp only at hSw); clear hSw; go_simp; try with_reducible rfl)
                  try simp only [Act.put, List.setIfInBounds_toArray, List.set_cons_zero, List.set_cons_succ]
                  refine wpAnyH_take (i := 12) (oi := { dst := some 95, op := Op.fieldAddr 65 (Operand.tmp 94) 0, type := 0, pos := "ref.go:21", after := #[{ on := 11, ground := Ground.data }, { on := 1, ground := Ground.guard }], guard := some (1, false) }) (v := ?_) rfl (by kernel_rfl) (by kernel_rfl) (by kernel_rfl) (fun _ _ _ h => h) (Or.inl ⟨by rfl, ?hy79⟩) hS0 ?_
                  case hy79 => (intro V hSw; (try dsimp only at hSw); clear hSw; go_simp; try with_reducible rfl)
                  try simp only [Act.put, List.setIfInBounds_toArray, List.set_cons_zero, List.set_cons_succ]
                  refine wpAnyH_take (i := 13) (oi := { dst := some 96, op := Op.load 9 (Operand.tmp 95), type := 9, pos := "ref.go:21", after := #[{ on := 12, ground := Ground.data }, { on := 1, ground := Ground.guard }], guard := some (1, false) }) (v := ?_) rfl (by kernel_rfl) (by kernel_rfl) (by kernel_rfl) (fun _ _ _ h => h) (Or.inl ⟨by rfl, ?hy80⟩) hS0 ?_
                  case hy80 => (intro V hSw; (try dsimp only at hSw); have q0 := grow_cell hSw.out (block_lt_of_cell d0) d0; have q1 := grow_cell hSw.out (block_lt_of_cell e0) e0; clear hSw; go_simp; try with_reducible rfl)
                  try simp only [Act.put, List.setIfInBounds_toArray, List.set_cons_zero, List.set_cons_succ]
                  refine wpAnyH_take (i := 14) (oi := { dst := some 97, op := Op.binOp BinOp.eql 9 (Operand.tmp 90) (Operand.tmp 96) 9, type := 4, pos := "ref.go:21", after := #[{ on := 7, ground := Ground.data }, { on := 13, ground := Ground.data }, { on := 1, ground := Ground.guard }], guard := some (1, false) }) (v := ?_) rfl (by kernel_rfl) (by kernel_rfl) (by kernel_rfl) (fun _ _ _ h => h) (Or.inl ⟨by rfl, ?hy81⟩) hS0 ?_
                  case hy81 => (intro V hSw; (try dsimp only at hSw); clear hSw; go_simp; try with_reducible rfl)
                  try simp only [Act.put, List.setIfInBounds_toArray, List.set_cons_zero, List.set_cons_succ]
                  refine wpAnyH_take (i := 15) (oi := { dst := some 98, op := Op.move (Operand.tmp 97), type := 4, pos := "ref.go:21", after := #[{ on := 14, ground := Ground.data }, { on := 1, ground := Ground.chain }, { on := 1, ground := Ground.guard }], guard := some (1, false) }) (v := ?_) rfl (by kernel_rfl) (by kernel_rfl) (by kernel_rfl) (fun _ _ _ h => h) (Or.inl ⟨by rfl, ?hy82⟩) hS0 ?_
                  case hy82 => (intro V hSw; (try dsimp only at hSw); clear hSw; go_simp; try with_reducible rfl)
                  try simp only [Act.put, List.setIfInBounds_toArray, List.set_cons_zero, List.set_cons_succ]
                  refine wpAnyH_take (i := 16) (oi := { dst := some 99, op := Op.move (Operand.tmp 7), type := 103, pos := "ref.go:21", after := #[{ on := 15, ground := Ground.guard }], guard := some (15, true) }) (v := undef) rfl (by kernel_rfl) (by kernel_rfl) (by kernel_rfl) (fun _ _ _ h => h) (Or.inr ⟨by rfl, rfl⟩) hS0 ?_
                  try simp only [Act.put, List.setIfInBounds_toArray, List.set_cons_zero, List.set_cons_succ]
                  refine wpAnyH_take (i := 17) (oi := { dst := some 100, op := Op.move (Operand.tmp 13), type := 3, pos := "ref.go:21", after := #[{ on := 15, ground := Ground.guard }], guard := some (15, true) }) (v := undef) rfl (by kernel_rfl) (by kernel_rfl) (by kernel_rfl) (fun _ _ _ h => h) (Or.inr ⟨by rfl, rfl⟩) hS0 ?_
                  try simp only [Act.put, List.setIfInBounds_toArray, List.set_cons_zero, List.set_cons_succ]
                  refine wpAnyH_take (i := 18) (oi := { dst := some 101, op := Op.indexAddr 103 (Operand.tmp 99) (Operand.tmp 100), type := 0, pos := "ref.go:21", after := #[{ on := 16, ground := Ground.data }, { on := 17, ground := Ground.data }, { on := 15, ground := Ground.guard }], guard := some (15, true) }) (v := undef) rfl (by kernel_rfl) (by kernel_rfl) (by kernel_rfl) (fun _ _ _ h => h) (Or.inr ⟨by rfl, rfl⟩) hS0 ?_
                  try simp only [Act.put, List.setIfInBounds_toArray, List.set_cons_zero, List.set_cons_succ]
                  refine wpAnyH_take (i := 19) (oi := { dst := some 102, op := Op.load 4 (Operand.tmp 101), type := 4, pos := "ref.go:21", after := #[{ on := 18, ground := Ground.data }, { on := 15, ground := Ground.guard }], guard := some (15, true) }) (v := undef) rfl (by kernel_rfl) (by kernel_rfl) (by kernel_rfl) (fun _ _ _ h => h) (Or.inr ⟨by rfl, rfl⟩) hS0 ?_
                  try simp only [Act.put, List.setIfInBounds_toArray, List.set_cons_zero, List.set_cons_succ]
                  refine wpAnyH_take (i := 20) (oi := { dst := some 103, op := Op.pick (Operand.tmp 98) (Operand.tmp 102) (Operand.const (Value.bool false)), type := 4, pos := "ref.go:21", after := #[{ on := 15, ground := Ground.data }, { on := 19, ground := Ground.data }, { on := 1, ground := Ground.guard }], guard := some (1, false) }) (v := ?_) rfl (by kernel_rfl) (by kernel_rfl) (by kernel_rfl) (fun _ _ _ h => h) (Or.inl ⟨by rfl, ?hy87⟩) hS0 ?_
                  case hy87 => (intro V hSw; (try dsimp only at hSw); clear hSw; go_simp; try with_reducible rfl)
                  try simp only [Act.put, List.setIfInBounds_toArray, List.set_cons_zero, List.set_cons_succ]
                  refine wpAnyH_take (i := 21) (oi := { dst := some 104, op := Op.pick (Operand.tmp 84) (Operand.const (Value.bool true)) (Operand.tmp 103), type := 4, pos := "ref.go:21", after := #[{ on := 1, ground := Ground.data }, { on := 20, ground := Ground.data }], guard := none }) (v := ?_) rfl (by kernel_rfl) (by kernel_rfl) (by kernel_rfl) (fun _ _ _ h => h) (Or.inl ⟨by rfl, ?hy88⟩) hS0 ?_
                  case hy88 => (intro V hSw; (try dsimp only at hSw); clear hSw; go_simp; try with_reducible rfl)
                  try simp only [Act.put, List.setIfInBounds_toArray, List.set_cons_zero, List.set_cons_succ]
                  refine wpAnyH_ready (rs := [22]) (by kernel_rfl) (by simp) (AllReadyH.cons rfl (fun K hK => ?_) AllReadyH.nil)
                  go_simp
                  refine hK.out _ _ hS0 (fun _ => ?_)
                  clear hK K
                  try simp only [Act.put, List.setIfInBounds_toArray, List.set_cons_zero, List.set_cons_succ]
                  refine wpAnyH_done (by kernel_rfl) ?_ _
                  have HbE := Lib.hid (Hbq.out.trans (hS0.out.mono Hbq.out.size))
                  have HBE := Lib.hid (blk_bels hS0.out HBq.out)
                  clear d0 e0 kc hS0
                  go_wp2_with fail
                  go_roundw
                  case rel => exact ⟨k + 1, by omega, by omega, by go_num, by rw [Hst2.out], HBE.out, HbE.out⟩
                  case measure => simp [intOf]; omega
            · obtain rfl : i = k := by omega
              clear hk1 hk2 hki
              go_wp2_with fail
              go_loopw [12, 14] (fun gv jv wr => ∃ j : Nat, j ≤ q ∧ jv = .int .i64 j ∧ gv = .bool ((ds.take j).any fun d => decide (d = u)) ∧ wr.heap[w.heap.size]? = some (.cells (bA i (fB l zs cv A (t + 1))) 4 (0, 0)) ∧ Below w.heap.size w wr) (fun _ jv _ => q - (intOf jv).toNat)
              case atStart => exact ⟨0, Nat.zero_le _, rfl, rfl, HBq.out, Hbq.out⟩
              case round =>
                clear HBq Hbq
                obtain ⟨wz, rfl⟩ : ∃ wz : World, wz = wr := ⟨_, rfl⟩
                obtain ⟨j, hj, rfl, rfl, hBz, hbz⟩ := hrel
                have HBz := Lib.hid hBz
                have Hbz := Lib.hid hbz
                clear hBz hbz
                obtain ⟨cov, hcov⟩ : ∃ o, o = (ds.take j).any fun d => decide (d = u) := ⟨_, rfl⟩
                rw [← hcov]
                have Hcov := Lib.hid hcov
                clear hcov
                by_cases hjq : j < q
                · obtain ⟨bd, offd, rfl, hcd⟩ := Hxd.out (by omega)
                  obtain ⟨d, hdj⟩ : ∃ d, ds[j]? = some d := ⟨_, List.getElem?_eq_getElem (by rw [← Hq.out]; exact hjq)⟩
                  have cd0 : wz.cell? ⟨bd, offd + j, none⟩ = some (.string d) := by
                    have := hcd j d hdj 0 _ rfl
                    rw [Nat.mul_one, Nat.add_zero] at this
                    exact (Hbz.out.cell (block_lt_of_cell this)).trans this
                  have hst : ((ds.take (j + 1)).any fun d => decide (d = u)) = (cov || decide (d = u)) := by
                    rw [List.take_add_one, hdj, List.any_append, ← Hcov.out]; simp
                  have Hst := Lib.hid hst
                  obtain ⟨e0, -, -, -⟩ := Hcw.out wz Hbz.out t _ Hxt.out
                  have hjq2 : (j : Int) < (q : Int) := by omega
                  clear hcd hdj hst
                  go_upto_region 21 with fail
                  cases cov with
                  | true =>
                    have Hst2 : Hid (((ds.take (j + 1)).any fun d => decide (d = u)) = true) := Lib.hid (by rw [Hst.out]; rfl)
                    clear Hst Hcov
                    refine wp_region_held_drew (S := fun V' => Hid (Below wz.heap.size wz V')) (by kernel_rfl) (Lib.hid ((Below.refl _ _).drew)) (fun hS0 => ?_)
                    refine wpAnyH_take (i := 0) (oi := { dst := some 111, op := Op.move (Operand.tmp 12), type := 4, pos := "ref.go:24", after := #[], guard := none }) (v := ?_) rfl (by kernel_rfl) (by kernel_rfl) (by kernel_rfl) (fun _ _ _ h => h) (Or.inl ⟨by rfl, ?hy111⟩) hS0 ?_
                    case hy111 => (intro V hSw; (try dsimp only at hSw); clear hSw; go_simp; try with_reducible rfl)
                    try simp only [Act.put, List.setIfInBounds_toArray, List.set_cons_zero, List.set_cons_succ]
                    refine wpAnyH_take (i := 1) (oi := { dst := some 112, op := Op.move (Operand.tmp 111), type := 4, pos := "ref.go:24", after := #[{ on := 0, ground := Ground.data }], guard := none }) (v := ?_) rfl (by kernel_rfl) (by kernel_rfl) (by kernel_rfl) (fun _ _ _ h => h) (Or.inl ⟨by rfl, ?hy112⟩) hS0 ?_
                    case hy112 => (intro V hSw; (try dsimp only at hSw); clear hSw; go_simp; try with_reducible rfl)
                    try simp only [Act.put, List.setIfInBounds_toArray, List.set_cons_zero, List.set_cons_succ]
                    refine wpAnyH_take (i := 2) (oi := { dst := some 113, op := Op.move (Operand.tmp 2), type := 52, pos := "ref.go:24", after := #[{ on := 1, ground := Ground.guard }], guard := some (1, false) }) (v := undef) rfl (by kernel_rfl) (by kernel_rfl) (by kernel_rfl) (fun _ _ _ h => h) (Or.inr ⟨by rfl, rfl⟩) hS0 ?_
                    try simp only [Act.put, List.setIfInBounds_toArray, List.set_cons_zero, List.set_cons_succ]
                    refine wpAnyH_take (i := 3) (oi := { dst := some 114, op := Op.move (Operand.tmp 14), type := 3, pos := "ref.go:24", after := #[{ on := 1, ground := Ground.guard }], guard := some (1, false) }) (v := undef) rfl (by kernel_rfl) (by kernel_rfl) (by kernel_rfl) (fun _ _ _ h => h) (Or.inr ⟨by rfl, rfl⟩) hS0 ?_
                    try simp only [Act.put, List.setIfInBounds_toArray, List.set_cons_zero, List.set_cons_succ]
                    refine wpAnyH_take (i := 4) (oi := { dst := some 115, op := Op.indexAddr 52 (Operand.tmp 113) (Operand.tmp 114), type := 0, pos := "ref.go:24", after := #[{ on := 2, ground := Ground.data }, { on := 3, ground := Ground.data }, { on := 1, ground := Ground.guard }], guard := some (1, false) }) (v := undef) rfl (by kernel_rfl) (by kernel_rfl) (by kernel_rfl) (fun _ _ _ h => h) (Or.inr ⟨by rfl, rfl⟩) hS0 ?_
                    try simp only [Act.put, List.setIfInBounds_toArray, List.set_cons_zero, List.set_cons_succ]
                    refine wpAnyH_take (i := 5) (oi := { dst := some 116, op := Op.load 9 (Operand.tmp 115), type := 9, pos := "ref.go:24", after := #[{ on := 4, ground := Ground.data }, { on := 1, ground := Ground.guard }], guard := some (1, false) }) (v := undef) rfl (by kernel_rfl) (by kernel_rfl) (by kernel_rfl) (fun _ _ _ h => h) (Or.inr ⟨by rfl, rfl⟩) hS0 ?_
                    try simp only [Act.put, List.setIfInBounds_toArray, List.set_cons_zero, List.set_cons_succ]
                    refine wpAnyH_take (i := 6) (oi := { dst := some 117, op := Op.move (Operand.tmp 0), type := 62, pos := "ref.go:24", after := #[{ on := 1, ground := Ground.guard }], guard := some (1, false) }) (v := undef) rfl (by kernel_rfl) (by kernel_rfl) (by kernel_rfl) (fun _ _ _ h => h) (Or.inr ⟨by rfl, rfl⟩) hS0 ?_
                    try simp only [Act.put, List.setIfInBounds_toArray, List.set_cons_zero, List.set_cons_succ]
                    refine wpAnyH_take (i := 7) (oi := { dst := some 118, op := Op.move (Operand.tmp 10), type := 3, pos := "ref.go:24", after := #[{ on := 1, ground := Ground.guard }], guard := some (1, false) }) (v := undef) rfl (by kernel_rfl) (by kernel_rfl) (by kernel_rfl) (fun _ _ _ h => h) (Or.inr ⟨by rfl, rfl⟩) hS0 ?_
                    try simp only [Act.put, List.setIfInBounds_toArray, List.set_cons_zero, List.set_cons_succ]
                    refine wpAnyH_take (i := 8) (oi := { dst := some 119, op := Op.indexAddr 62 (Operand.tmp 117) (Operand.tmp 118), type := 0, pos := "ref.go:24", after := #[{ on := 6, ground := Ground.data }, { on := 7, ground := Ground.data }, { on := 1, ground := Ground.guard }], guard := some (1, false) }) (v := undef) rfl (by kernel_rfl) (by kernel_rfl) (by kernel_rfl) (fun _ _ _ h => h) (Or.inr ⟨by rfl, rfl⟩) hS0 ?_
                    try simp only [Act.put, List.setIfInBounds_toArray, List.set_cons_zero, List.set_cons_succ]
                    refine wpAnyH_take (i := 9) (oi := { dst := some 120, op := Op.fieldAddr 67 (Operand.tmp 119) 0, type := 0, pos := "ref.go:24", after := #[{ on := 8, ground := Ground.data }, { on := 1, ground := Ground.guard }], guard := some (1, false) }) (v := undef) rfl (by kernel_rfl) (by kernel_rfl) (by kernel_rfl) (fun _ _ _ h => h) (Or.inr ⟨by rfl, rfl⟩) hS0 ?_
                    try simp only [Act.put, List.setIfInBounds_toArray, List.set_cons_zero, List.set_cons_succ]
                    refine wpAnyH_take (i := 10) (oi := { dst := some 121, op := Op.fieldAddr 65 (Operand.tmp 120) 0, type := 0, pos := "ref.go:24", after := #[{ on := 9, ground := Ground.data }, { on := 1, ground := Ground.guard }], guard := some (1, false) }) (v := undef) rfl (by kernel_rfl) (by kernel_rfl) (by kernel_rfl) (fun _ _ _ h => h) (Or.inr ⟨by rfl, rfl⟩) hS0 ?_
                    try simp only [Act.put, List.setIfInBounds_toArray, List.set_cons_zero, List.set_cons_succ]
                    refine wpAnyH_take (i := 11) (oi := { dst := some 122, op := Op.load 9 (Operand.tmp 121), type := 9, pos := "ref.go:24", after := #[{ on := 10, ground := Ground.data }, { on := 1, ground := Ground.guard }], guard := some (1, false) }) (v := undef) rfl (by kernel_rfl) (by kernel_rfl) (by kernel_rfl) (fun _ _ _ h => h) (Or.inr ⟨by rfl, rfl⟩) hS0 ?_
                    try simp only [Act.put, List.setIfInBounds_toArray, List.set_cons_zero, List.set_cons_succ]
                    refine wpAnyH_take (i := 12) (oi := { dst := some 123, op := Op.binOp BinOp.eql 9 (Operand.tmp 116) (Operand.tmp 122) 9, type := 4, pos := "ref.go:24", after := #[{ on := 5, ground := Ground.data }, { on := 11, ground := Ground.data }, { on := 1, ground := Ground.guard }], guard := some (1, false) }) (v := undef) rfl (by kernel_rfl) (by kernel_rfl) (by kernel_rfl) (fun _ _ _ h => h) (Or.inr ⟨by rfl, rfl⟩) hS0 ?_
                    try simp only [Act.put, List.setIfInBounds_toArray, List.set_cons_zero, List.set_cons_succ]
                    refine wpAnyH_take (i := 13) (oi := { dst := some 124, op := Op.pick (Operand.tmp 112) (Operand.const (Value.bool true)) (Operand.tmp 123), type := 4, pos := "ref.go:24", after := #[{ on := 1, ground := Ground.data }, { on := 12, ground := Ground.data }], guard := none }) (v := ?_) rfl (by kernel_rfl) (by kernel_rfl) (by kernel_rfl) (fun _ _ _ h => h) (Or.inl ⟨by rfl, ?hy124⟩) hS0 ?_
                    case hy124 => (intro V hSw; (try dsimp only at hSw); clear hSw; go_simp; try with_reducible rfl)
                    try simp only [Act.put, List.setIfInBounds_toArray, List.set_cons_zero, List.set_cons_succ]
                    refine wpAnyH_ready (rs := [14]) (by kernel_rfl) (by simp) (AllReadyH.cons rfl (fun K hK => ?_) AllReadyH.nil)
                    go_simp
                    refine hK.out _ _ hS0 (fun _ => ?_)
                    clear hK K
                    try simp only [Act.put, List.setIfInBounds_toArray, List.set_cons_zero, List.set_cons_succ]
                    refine wpAnyH_done (by kernel_rfl) ?_ _
                    have HbE := Lib.hid (Hbz.out.trans (hS0.out.mono Hbz.out.size))
                    have HBE := Lib.hid (blk_bels hS0.out HBz.out)
                    clear cd0 e0 hS0
                    go_wp2_with fail
                    go_roundw
                    case rel => exact ⟨j + 1, by omega, by go_num, by rw [Hst2.out], HBE.out, HbE.out⟩
                    case measure => simp [intOf]; omega
                  | false =>
                    by_cases hue : d = u
                    · have Hst2 : Hid (((ds.take (j + 1)).any fun d => decide (d = u)) = true) := Lib.hid (by rw [Hst.out, decide_eq_true hue]; rfl)
                      clear Hst Hcov
                      subst hue
                      refine wp_region_held_drew (S := fun V' => Hid (Below wz.heap.size wz V')) (by kernel_rfl) (Lib.hid ((Below.refl _ _).drew)) (fun hS0 => ?_)
                      refine wpAnyH_take (i := 0) (oi := { dst := some 111, op := Op.move (Operand.tmp 12), type := 4, pos := "ref.go:24", after := #[], guard := none }) (v := ?_) rfl (by kernel_rfl) (by kernel_rfl) (by kernel_rfl) (fun _ _ _ h => h) (Or.inl ⟨by rfl, ?hy125⟩) hS0 ?_
                      case hy125 => (intro V hSw; (try dsimp only at hSw); clear hSw; go_simp; try with_reducible rfl)
                      try simp only [Act.put, List.setIfInBounds_toArray, List.set_cons_zero, List.set_cons_succ]
                      refine wpAnyH_take (i := 1) (oi := { dst := some 112, op := Op.move (Operand.tmp 111), type := 4, pos := "ref.go:24", after := #[{ on := 0, ground := Ground.data }], guard := none }) (v := ?_) rfl (by kernel_rfl) (by kernel_rfl) (by kernel_rfl) (fun _ _ _ h => h) (Or.inl ⟨by rfl, ?hy126⟩) hS0 ?_
                      case hy126 => (intro V hSw; (try dsimp only at hSw); clear hSw; go_simp; try with_reducible rfl)
                      try simp only [Act.put, List.setIfInBounds_toArray, List.set_cons_zero, List.set_cons_succ]
                      refine wpAnyH_take (i := 2) (oi := { dst := some 113, op := Op.move (Operand.tmp 2), type := 52, pos := "ref.go:24", after := #[{ on := 1, ground := Ground.guard }], guard := some (1, false) }) (v := ?_) rfl (by kernel_rfl) (by kernel_rfl) (by kernel_rfl) (fun _ _ _ h => h) (Or.inl ⟨by rfl, ?hy127⟩) hS0 ?_
                      case hy127 => (intro V hSw; (try dsimp only at hSw); clear hSw; go_simp; try with_reducible rfl)
                      try simp only [Act.put, List.setIfInBounds_toArray, List.set_cons_zero, List.set_cons_succ]
                      refine wpAnyH_take (i := 3) (oi := { dst := some 114, op := Op.move (Operand.tmp 14), type := 3, pos := "ref.go:24", after := #[{ on := 1, ground := Ground.guard }], guard := some (1, false) }) (v := ?_) rfl (by kernel_rfl) (by kernel_rfl) (by kernel_rfl) (fun _ _ _ h => h) (Or.inl ⟨by rfl, ?hy128⟩) hS0 ?_
                      case hy128 => (intro V hSw; (try dsimp only at hSw); clear hSw; go_simp; try with_reducible rfl)
                      try simp only [Act.put, List.setIfInBounds_toArray, List.set_cons_zero, List.set_cons_succ]
                      refine wpAnyH_take (i := 4) (oi := { dst := some 115, op := Op.indexAddr 52 (Operand.tmp 113) (Operand.tmp 114), type := 0, pos := "ref.go:24", after := #[{ on := 2, ground := Ground.data }, { on := 3, ground := Ground.data }, { on := 1, ground := Ground.guard }], guard := some (1, false) }) (v := ?_) rfl (by kernel_rfl) (by kernel_rfl) (by kernel_rfl) (fun _ _ _ h => h) (Or.inl ⟨by rfl, ?hy129⟩) hS0 ?_
                      case hy129 => (intro V hSw; (try dsimp only at hSw); clear hSw; go_simp; try with_reducible rfl)
                      try simp only [Act.put, List.setIfInBounds_toArray, List.set_cons_zero, List.set_cons_succ]
                      refine wpAnyH_take (i := 5) (oi := { dst := some 116, op := Op.load 9 (Operand.tmp 115), type := 9, pos := "ref.go:24", after := #[{ on := 4, ground := Ground.data }, { on := 1, ground := Ground.guard }], guard := some (1, false) }) (v := ?_) rfl (by kernel_rfl) (by kernel_rfl) (by kernel_rfl) (fun _ _ _ h => h) (Or.inl ⟨by rfl, ?hy130⟩) hS0 ?_
                      case hy130 => (intro V hSw; (try dsimp only at hSw); have q0 := grow_cell hSw.out (block_lt_of_cell cd0) cd0; have q1 := grow_cell hSw.out (block_lt_of_cell e0) e0; clear hSw; go_simp; try with_reducible rfl)
                      try simp only [Act.put, List.setIfInBounds_toArray, List.set_cons_zero, List.set_cons_succ]
                      refine wpAnyH_take (i := 6) (oi := { dst := some 117, op := Op.move (Operand.tmp 0), type := 62, pos := "ref.go:24", after := #[{ on := 1, ground := Ground.guard }], guard := some (1, false) }) (v := ?_) rfl (by kernel_rfl) (by kernel_rfl) (by kernel_rfl) (fun _ _ _ h => h) (Or.inl ⟨by rfl, ?hy131⟩) hS0 ?_
                      case hy131 => (intro V hSw; (try dsimp only at hSw); clear hSw; go_simp; try with_reducible rfl)
                      try simp only [Act.put, List.setIfInBounds_toArray, List.set_cons_zero, List.set_cons_succ]
                      refine wpAnyH_take (i := 7) (oi := { dst := some 118, op := Op.move (Operand.tmp 10), type := 3, pos := "ref.go:24", after := #[{ on := 1, ground := Ground.guard }], guard := some (1, false) }) (v := ?_) rfl (by kernel_rfl) (by kernel_rfl) (by kernel_rfl) (fun _ _ _ h => h) (Or.inl ⟨by rfl, ?hy132⟩) hS0 ?_
                      case hy132 => (intro V hSw; (try dsimp only at hSw); clear hSw; go_simp; try with_reducible rfl)
                      try simp only [Act.put, List.setIfInBounds_toArray, List.set_cons_zero, List.set_cons_succ]
                      refine wpAnyH_take (i := 8) (oi := { dst := some 119, op := Op.indexAddr 62 (Operand.tmp 117) (Operand.tmp 118), type := 0, pos := "ref.go:24", after := #[{ on := 6, ground := Ground.data }, { on := 7, ground := Ground.data }, { on := 1, ground := Ground.guard }], guard := some (1, false) }) (v := ?_) rfl (by kernel_rfl) (by kernel_rfl) (by kernel_rfl) (fun _ _ _ h => h) (Or.inl ⟨by rfl, ?hy133⟩) hS0 ?_
                      case hy133 => (intro V hSw; (try dsimp only at hSw); clear hSw; go_simp; try with_reducible rfl)
                      try simp only [Act.put, List.setIfInBounds_toArray, List.set_cons_zero, List.set_cons_succ]
                      refine wpAnyH_take (i := 9) (oi := { dst := some 120, op := Op.fieldAddr 67 (Operand.tmp 119) 0, type := 0, pos := "ref.go:24", after := #[{ on := 8, ground := Ground.data }, { on := 1, ground := Ground.guard }], guard := some (1, false) }) (v := ?_) rfl (by kernel_rfl) (by kernel_rfl) (by kernel_rfl) (fun _ _ _ h => h) (Or.inl ⟨by rfl, ?hy134⟩) hS0 ?_
                      case hy134 => (intro V hSw; (try dsimp only at hSw); clear hSw; go_simp; try with_reducible rfl)
                      try simp only [Act.put, List.setIfInBounds_toArray, List.set_cons_zero, List.set_cons_succ]
                      refine wpAnyH_take (i := 10) (oi := { dst := some 121, op := Op.fieldAddr 65 (Operand.tmp 120) 0, type := 0, pos := "ref.go:24", after := #[{ on := 9, ground := Ground.data }, { on := 1, ground := Ground.guard }], guard := some (1, false) }) (v := ?_) rfl (by kernel_rfl) (by kernel_rfl) (by kernel_rfl) (fun _ _ _ h => h) (Or.inl ⟨by rfl, ?hy135⟩) hS0 ?_
                      case hy135 => (intro V hSw; (try dsimp only at hSw); clear hSw; go_simp; try with_reducible rfl)
                      try simp only [Act.put, List.setIfInBounds_toArray, List.set_cons_zero, List.set_cons_succ]
                      refine wpAnyH_take (i := 11) (oi := { dst := some 122, op := Op.load 9 (Operand.tmp 121), type := 9, pos := "ref.go:24", after := #[{ on := 10, ground := Ground.data }, { on := 1, ground := Ground.guard }], guard := some (1, false) }) (v := ?_) rfl (by kernel_rfl) (by kernel_rfl) (by kernel_rfl) (fun _ _ _ h => h) (Or.inl ⟨by rfl, ?hy136⟩) hS0 ?_
                      case hy136 => (intro V hSw; (try dsimp only at hSw); have q0 := grow_cell hSw.out (block_lt_of_cell cd0) cd0; have q1 := grow_cell hSw.out (block_lt_of_cell e0) e0; clear hSw; go_simp; try with_reducible rfl)
                      try simp only [Act.put, List.setIfInBounds_toArray, List.set_cons_zero, List.set_cons_succ]
                      refine wpAnyH_take (i := 12) (oi := { dst := some 123, op := Op.binOp BinOp.eql 9 (Operand.tmp 116) (Operand.tmp 122) 9, type := 4, pos := "ref.go:24", after := #[{ on := 5, ground := Ground.data }, { on := 11, ground := Ground.data }, { on := 1, ground := Ground.guard }], guard := some (1, false) }) (v := ?_) rfl (by kernel_rfl) (by kernel_rfl) (by kernel_rfl) (fun _ _ _ h => h) (Or.inl ⟨by rfl, ?hy137⟩) hS0 ?_
                      case hy137 => (intro V hSw; (try dsimp only at hSw); clear hSw; go_simp; try with_reducible rfl)
                      try simp only [Act.put, List.setIfInBounds_toArray, List.set_cons_zero, List.set_cons_succ]
                      refine wpAnyH_take (i := 13) (oi := { dst := some 124, op := Op.pick (Operand.tmp 112) (Operand.const (Value.bool true)) (Operand.tmp 123), type := 4, pos := "ref.go:24", after := #[{ on := 1, ground := Ground.data }, { on := 12, ground := Ground.data }], guard := none }) (v := ?_) rfl (by kernel_rfl) (by kernel_rfl) (by kernel_rfl) (fun _ _ _ h => h) (Or.inl ⟨by rfl, ?hy138⟩) hS0 ?_
                      case hy138 => (intro V hSw; (try dsimp only at hSw); clear hSw; go_simp; try with_reducible rfl)
                      try simp only [Act.put, List.setIfInBounds_toArray, List.set_cons_zero, List.set_cons_succ]
                      refine wpAnyH_ready (rs := [14]) (by kernel_rfl) (by simp) (AllReadyH.cons rfl (fun K hK => ?_) AllReadyH.nil)
                      go_simp
                      refine hK.out _ _ hS0 (fun _ => ?_)
                      clear hK K
                      try simp only [Act.put, List.setIfInBounds_toArray, List.set_cons_zero, List.set_cons_succ]
                      refine wpAnyH_done (by kernel_rfl) ?_ _
                      have HbE := Lib.hid (Hbz.out.trans (hS0.out.mono Hbz.out.size))
                      have HBE := Lib.hid (blk_bels hS0.out HBz.out)
                      clear cd0 e0 hS0
                      go_wp2_with fail
                      go_roundw
                      case rel => exact ⟨j + 1, by omega, by go_num, by rw [Hst2.out], HBE.out, HbE.out⟩
                      case measure => simp [intOf]; omega
                    · have Hst2 : Hid (((ds.take (j + 1)).any fun d => decide (d = u)) = false) := Lib.hid (by rw [Hst.out, decide_eq_false hue]; rfl)
                      have hq := str_no hue
                      clear Hst Hcov
                      refine wp_region_held_drew (S := fun V' => Hid (Below wz.heap.size wz V')) (by kernel_rfl) (Lib.hid ((Below.refl _ _).drew)) (fun hS0 => ?_)
                      refine wpAnyH_take (i := 0) (oi := { dst := some 111, op := Op.move (Operand.tmp 12), type := 4, pos := "ref.go:24", after := #[], guard := none }) (v := ?_) rfl (by kernel_rfl) (by kernel_rfl) (by kernel_rfl) (fun _ _ _ h => h) (Or.inl ⟨by rfl, ?hy139⟩) hS0 ?_
                      case hy139 => (intro V hSw; (try dsimp only at hSw); clear hSw; go_simp; try with_reducible rfl)
                      try simp only [Act.put, List.setIfInBounds_toArray, List.set_cons_zero, List.set_cons_succ]
                      refine wpAnyH_take (i := 1) (oi := { dst := some 112, op := Op.move (Operand.tmp 111), type := 4, pos := "ref.go:24", after := #[{ on := 0, ground := Ground.data }], guard := none }) (v := ?_) rfl (by kernel_rfl) (by kernel_rfl) (by kernel_rfl) (fun _ _ _ h => h) (Or.inl ⟨by rfl, ?hy140⟩) hS0 ?_
                      case hy140 => (intro V hSw; (try dsimp only at hSw); clear hSw; go_simp; try with_reducible rfl)
                      try simp only [Act.put, List.setIfInBounds_toArray, List.set_cons_zero, List.set_cons_succ]
                      refine wpAnyH_take (i := 2) (oi := { dst := some 113, op := Op.move (Operand.tmp 2), type := 52, pos := "ref.go:24", after := #[{ on := 1, ground := Ground.guard }], guard := some (1, false) }) (v := ?_) rfl (by kernel_rfl) (by kernel_rfl) (by kernel_rfl) (fun _ _ _ h => h) (Or.inl ⟨by rfl, ?hy141⟩) hS0 ?_
                      case hy141 => (intro V hSw; (try dsimp only at hSw); clear hSw; go_simp; try with_reducible rfl)
                      try simp only [Act.put, List.setIfInBounds_toArray, List.set_cons_zero, List.set_cons_succ]
                      refine wpAnyH_take (i := 3) (oi := { dst := some 114, op := Op.move (Operand.tmp 14), type := 3, pos := "ref.go:24", after := #[{ on := 1, ground := Ground.guard }], guard := some (1, false) }) (v := ?_) rfl (by kernel_rfl) (by kernel_rfl) (by kernel_rfl) (fun _ _ _ h => h) (Or.inl ⟨by rfl, ?hy142⟩) hS0 ?_
                      case hy142 => (intro V hSw; (try dsimp only at hSw); clear hSw; go_simp; try with_reducible rfl)
                      try simp only [Act.put, List.setIfInBounds_toArray, List.set_cons_zero, List.set_cons_succ]
                      refine wpAnyH_take (i := 4) (oi := { dst := some 115, op := Op.indexAddr 52 (Operand.tmp 113) (Operand.tmp 114), type := 0, pos := "ref.go:24", after := #[{ on := 2, ground := Ground.data }, { on := 3, ground := Ground.data }, { on := 1, ground := Ground.guard }], guard := some (1, false) }) (v := ?_) rfl (by kernel_rfl) (by kernel_rfl) (by kernel_rfl) (fun _ _ _ h => h) (Or.inl ⟨by rfl, ?hy143⟩) hS0 ?_
                      case hy143 => (intro V hSw; (try dsimp only at hSw); clear hSw; go_simp; try with_reducible rfl)
                      try simp only [Act.put, List.setIfInBounds_toArray, List.set_cons_zero, List.set_cons_succ]
                      refine wpAnyH_take (i := 5) (oi := { dst := some 116, op := Op.load 9 (Operand.tmp 115), type := 9, pos := "ref.go:24", after := #[{ on := 4, ground := Ground.data }, { on := 1, ground := Ground.guard }], guard := some (1, false) }) (v := ?_) rfl (by kernel_rfl) (by kernel_rfl) (by kernel_rfl) (fun _ _ _ h => h) (Or.inl ⟨by rfl, ?hy144⟩) hS0 ?_
                      case hy144 => (intro V hSw; (try dsimp only at hSw); have q0 := grow_cell hSw.out (block_lt_of_cell cd0) cd0; have q1 := grow_cell hSw.out (block_lt_of_cell e0) e0; clear hSw; go_simp; try with_reducible rfl)
                      try simp only [Act.put, List.setIfInBounds_toArray, List.set_cons_zero, List.set_cons_succ]
                      refine wpAnyH_take (i := 6) (oi := { dst := some 117, op := Op.move (Operand.tmp 0), type := 62, pos := "ref.go:24", after := #[{ on := 1, ground := Ground.guard }], guard := some (1, false) }) (v := ?_) rfl (by kernel_rfl) (by kernel_rfl) (by kernel_rfl) (fun _ _ _ h => h) (Or.inl ⟨by rfl, ?hy145⟩) hS0 ?_
                      case hy145 => (intro V hSw; (try dsimp only at hSw); clear hSw; go_simp; try with_reducible rfl)
                      try simp only [Act.put, List.setIfInBounds_toArray, List.set_cons_zero, List.set_cons_succ]
                      refine wpAnyH_take (i := 7) (oi := { dst := some 118, op := Op.move (Operand.tmp 10), type := 3, pos := "ref.go:24", after := #[{ on := 1, ground := Ground.guard }], guard := some (1, false) }) (v := ?_) rfl (by kernel_rfl) (by kernel_rfl) (by kernel_rfl) (fun _ _ _ h => h) (Or.inl ⟨by rfl, ?hy146⟩) hS0 ?_
                      case hy146 => (intro V hSw; (try dsimp only at hSw); clear hSw; go_simp; try with_reducible rfl)
                      try simp only [Act.put, List.setIfInBounds_toArray, List.set_cons_zero, List.set_cons_succ]
                      refine wpAnyH_take (i := 8) (oi := { dst := some 119, op := Op.indexAddr 62 (Operand.tmp 117) (Operand.tmp 118), type := 0, pos := "ref.go:24", after := #[{ on := 6, ground := Ground.data }, { on := 7, ground := Ground.data }, { on := 1, ground := Ground.guard }], guard := some (1, false) }) (v := ?_) rfl (by kernel_rfl) (by kernel_rfl) (by kernel_rfl) (fun _ _ _ h => h) (Or.inl ⟨by rfl, ?hy147⟩) hS0 ?_
                      case hy147 => (intro V hSw; (try dsimp only at hSw); clear hSw; go_simp; try with_reducible rfl)
                      try simp only [Act.put, List.setIfInBounds_toArray, List.set_cons_zero, List.set_cons_succ]
                      refine wpAnyH_take (i := 9) (oi := { dst := some 120, op := Op.fieldAddr 67 (Operand.tmp 119) 0, type := 0, pos := "ref.go:24", after := #[{ on := 8, ground := Ground.data }, { on := 1, ground := Ground.guard }], guard := some (1, false) }) (v := ?_) rfl (by kernel_rfl) (by kernel_rfl) (by kernel_rfl) (fun _ _ _ h => h) (Or.inl ⟨by rfl, ?hy148⟩) hS0 ?_
                      case hy148 => (intro V hSw; (try dsimp only at hSw); clear hSw; go_simp; try with_reducible rfl)
                      try simp only [Act.put, List.setIfInBounds_toArray, List.set_cons_zero, List.set_cons_succ]
                      refine wpAnyH_take (i := 10) (oi := { dst := some 121, op := Op.fieldAddr 65 (Operand.tmp 120) 0, type := 0, pos := "ref.go:24", after := #[{ on := 9, ground := Ground.data }, { on := 1, ground := Ground.guard }], guard := some (1, false) }) (v := ?_) rfl (by kernel_rfl) (by kernel_rfl) (by kernel_rfl) (fun _ _ _ h => h) (Or.inl ⟨by rfl, ?hy149⟩) hS0 ?_
                      case hy149 => (intro V hSw; (try dsimp only at hSw); clear hSw; go_simp; try with_reducible rfl)
                      try simp only [Act.put, List.setIfInBounds_toArray, List.set_cons_zero, List.set_cons_succ]
                      refine wpAnyH_take (i := 11) (oi := { dst := some 122, op := Op.load 9 (Operand.tmp 121), type := 9, pos := "ref.go:24", after := #[{ on := 10, ground := Ground.data }, { on := 1, ground := Ground.guard }], guard := some (1, false) }) (v := ?_) rfl (by kernel_rfl) (by kernel_rfl) (by kernel_rfl) (fun _ _ _ h => h) (Or.inl ⟨by rfl, ?hy150⟩) hS0 ?_
                      case hy150 => (intro V hSw; (try dsimp only at hSw); have q0 := grow_cell hSw.out (block_lt_of_cell cd0) cd0; have q1 := grow_cell hSw.out (block_lt_of_cell e0) e0; clear hSw; go_simp; try with_reducible rfl)
                      try simp only [Act.put, List.setIfInBounds_toArray, List.set_cons_zero, List.set_cons_succ]
                      refine wpAnyH_take (i := 12) (oi := { dst := some 123, op := Op.binOp BinOp.eql 9 (Operand.tmp 116) (Operand.tmp 122) 9, type := 4, pos := "ref.go:24", after := #[{ on := 5, ground := Ground.data }, { on := 11, ground := Ground.data }, { on := 1, ground := Ground.guard }], guard := some (1, false) }) (v := ?_) rfl (by kernel_rfl) (by kernel_rfl) (by kernel_rfl) (fun _ _ _ h => h) (Or.inl ⟨by rfl, ?hy151⟩) hS0 ?_
                      case hy151 => (intro V hSw; (try dsimp only at hSw); clear hSw; go_simp; try with_reducible rfl)
                      try simp only [Act.put, List.setIfInBounds_toArray, List.set_cons_zero, List.set_cons_succ]
                      refine wpAnyH_take (i := 13) (oi := { dst := some 124, op := Op.pick (Operand.tmp 112) (Operand.const (Value.bool true)) (Operand.tmp 123), type := 4, pos := "ref.go:24", after := #[{ on := 1, ground := Ground.data }, { on := 12, ground := Ground.data }], guard := none }) (v := ?_) rfl (by kernel_rfl) (by kernel_rfl) (by kernel_rfl) (fun _ _ _ h => h) (Or.inl ⟨by rfl, ?hy152⟩) hS0 ?_
                      case hy152 => (intro V hSw; (try dsimp only at hSw); clear hSw; go_simp; try with_reducible rfl)
                      try simp only [Act.put, List.setIfInBounds_toArray, List.set_cons_zero, List.set_cons_succ]
                      refine wpAnyH_ready (rs := [14]) (by kernel_rfl) (by simp) (AllReadyH.cons rfl (fun K hK => ?_) AllReadyH.nil)
                      go_simp
                      refine hK.out _ _ hS0 (fun _ => ?_)
                      clear hK K
                      try simp only [Act.put, List.setIfInBounds_toArray, List.set_cons_zero, List.set_cons_succ]
                      refine wpAnyH_done (by kernel_rfl) ?_ _
                      have HbE := Lib.hid (Hbz.out.trans (hS0.out.mono Hbz.out.size))
                      have HBE := Lib.hid (blk_bels hS0.out HBz.out)
                      clear cd0 e0 hS0
                      go_wp2_with fail
                      go_roundw
                      case rel => exact ⟨j + 1, by omega, by go_num, by rw [Hst2.out], HBE.out, HbE.out⟩
                      case measure => simp [intOf]; omega
                · obtain rfl : q = j := by omega
                  have hcu : cv u = cov := by rw [Hcov.out, Hcv.out, Hq.out, List.take_length]
                  have hfin := Hfin.out
                  rw [hcu, ← Hold.out] at hfin
                  obtain ⟨-, -, e2, -⟩ := Hcw.out wz Hbz.out t _ Hxt.out
                  dsimp only at e2
                  clear hcu hj hjq Hcov Hold Hcw Hxt Hfin
                  by_cases hk2 : kd = 2
                  · subst hk2
                    cases old with
                    | true =>
                      have HN : Hid (wz.heap[w.heap.size]? = some (.cells (bA i (fB l zs cv A t)) 4 (0, 0))) := Lib.hid (by
                        rw [bA_congr (fun k _ => fB_same hfin (by simp) k)]
                        exact HBz.out)
                      clear hfin
                      go_wp2_with fail
                      go_roundw
                      case rel => exact ⟨t, by omega, by first | rfl | go_num, HN.out, Hbz.out⟩
                      case measure => simp [intOf]
                    | false =>
                      cases cov with
                      | true =>
                        have HN : Hid (wz.heap[w.heap.size]? = some (.cells (bA i (fB l zs cv A t)) 4 (0, 0))) := Lib.hid (by
                          rw [bA_congr (fun k _ => fB_same hfin (by simp) k)]
                          exact HBz.out)
                        clear hfin
                        go_wp2_with fail
                        go_roundw
                        case rel => exact ⟨t, by omega, by first | rfl | go_num, HN.out, Hbz.out⟩
                        case measure => simp [intOf]
                      | false =>
                        rw [show (k0 l zs t && !(decide ((2 : Int) = 2) && (!false && !false))) = false from by simp] at hfin
                        have kz := frozen_of_blk HBz.out t
                        have kc := (cell_of_blk HBz.out t).trans (bA_get _ htn)
                        have HN : Hid ((wz.setCell ⟨w.heap.size, t, none⟩ (.bool false)).heap[w.heap.size]? = some (.cells (bA i (fB l zs cv A t)) 4 (0, 0))) := Lib.hid (by
                          rw [bA_congr (fun k _ => fB_drop hfin k)]
                          exact blk_bset HBz.out htn false)
                        have HbN := Lib.hid (Hbz.out.setCell (p := ⟨w.heap.size, t, none⟩) (Nat.le_refl _) (.bool false))
                        clear hfin
                        go_wp2_with fail
                        go_roundw
                        case rel => exact ⟨t, by omega, by first | rfl | go_num, HN.out, HbN.out⟩
                        case measure => simp [intOf]
                  · have hkf : decide (kd = 2) = false := decide_eq_false hk2
                    have HN : Hid (wz.heap[w.heap.size]? = some (.cells (bA i (fB l zs cv A t)) 4 (0, 0))) := Lib.hid (by
                      rw [bA_congr (fun k _ => fB_same hfin (by rw [hkf]; simp) k)]
                      exact HBz.out)
                    clear hfin
                    go_wp2_with fail
                    go_roundw
                    case rel => exact ⟨t, by omega, by first | rfl | go_num, HN.out, Hbz.out⟩
                    case measure => simp [intOf]
        · obtain rfl : p = 0 := by omega
          have HB5 : Hid (wt.heap[w.heap.size]? = some (.cells (bA i (fun k => ((finK cv A).getD k (En.nil, false)).2)) 4 (0, 0))) := Lib.hid (by
            rw [bA_congr (B' := fB l zs cv A 0) (fun k hk => by unfold fB; rw [if_neg (Nat.not_lt_zero _)])]
            exact HBt.out)
          rw [show ((0 : Nat) : Int) - 1 = -1 from rfl]
          clear HBt hp hp0
          go_wp2_with fail
          go_loopw [15, 16] (fun ov kv wr => ∃ k : Nat, k ≤ i ∧ kv = .int .i64 k ∧ (∃ oa on oc, on ≤ k ∧ ov = .slice oa on oc ∧ OwnRe wr (w.heap.size + 1) (.slice oa on oc) (keptM ((finK cv A).take k))) ∧ wr.heap[w.heap.size]? = some (.cells (bA i (fun k => ((finK cv A).getD k (En.nil, false)).2)) 4 (0, 0)) ∧ Below w.heap.size w wr) (fun _ kv _ => i - (intOf kv).toNat)
          case atStart => exact ⟨0, Nat.zero_le _, rfl, ⟨none, 0, 0, Nat.le_refl _, rfl, World.ownsRow_nil _ _ _ _⟩, HB5.out, Hbt.out⟩
          case round =>
            clear HB5 Hbt
            obtain ⟨wx, rfl⟩ : ∃ wx : World, wx = wr := ⟨_, rfl⟩
            obtain ⟨k, hk, rfl, ⟨oa, on, oc, hon, rfl, hown⟩, hBx, hbx⟩ := hrel
            have HBx := Lib.hid hBx
            have Hbx := Lib.hid hbx
            have Hown := Lib.hid hown
            clear hBx hbx hown
            by_cases hki : k < i
            · obtain ⟨b, off, rfl, hcell⟩ := Hx.out (by omega)
              obtain ⟨y, hy⟩ : ∃ y, l[k]? = some y := ⟨_, List.getElem?_eq_getElem (by rw [← Hn.out]; exact hki)⟩
              have hgk : l.getD k En.nil = y := by rw [List.getD_eq_getElem?_getD, hy]; rfl
              have hAk := HAat.out k hki
              rw [hgk] at hAk
              obtain ⟨fk, hfk⟩ : ∃ fk, (finK cv A)[k]? = some (y, fk) := ⟨_, finK_at cv A hAk⟩
              have htk : keptM ((finK cv A).take (k + 1)) = keptM ((finK cv A).take k) ++ (if fk = true then [y] else []) := by
                unfold keptM
                rw [List.take_add_one, hfk, List.filter_append, List.map_append]
                cases fk <;> rfl
              have kc : wx.cell? ⟨w.heap.size, k, none⟩ = some (.bool fk) := (cell_of_blk HBx.out k).trans ((bA_get _ hki).trans (by rw [List.getD_eq_getElem?_getD, hfk]; rfl))
              obtain ⟨d0, d1, d2, d3⟩ := IsEs.row (w := wx) (fun i x hi j y hj => (Hbx.out.cell (block_lt_of_cell (hcell i x hi j y hj))).trans (hcell i x hi j y hj)) hy
              have hki2 : (k : Int) < (i : Int) := by omega
              clear hcell hfk hAk hy hgk
              obtain ⟨⟨yu, ys, yk⟩, val2⟩ := y
              dsimp only at d0 d1 d2 d3
              cases fk with
              | false =>
                have Htk : Hid (keptM ((finK cv A).take (k + 1)) = keptM ((finK cv A).take k)) := Lib.hid (by rw [htk]; simp)
                clear htk
                go_wp2_with fail
                go_roundw
                case rel => exact ⟨k + 1, by omega, by go_num, ⟨oa, on, oc, by omega, rfl, by rw [Htk.out]; exact Hown.out⟩, HBx.out, Hbx.out⟩
                case measure => simp [intOf]; omega
              | true =>
                have hlt : w.heap.size + 1 ≤ wx.heap.size := (Array.getElem?_eq_some_iff.1 HBx.out).1
                obtain ⟨ya, yc, w2, hrun, hown2, hg2⟩ := push_re wx (w.heap.size + 1) oa on oc _ ⟨⟨yu, ys, yk⟩, val2⟩ Hown.out (by omega) hlt
                dsimp only at hrun hg2
                have Ho2 : Hid (OwnRe w2 (w.heap.size + 1) (.slice ya (on + 1) yc) (keptM ((finK cv A).take (k + 1)))) := Lib.hid (by rw [htk, if_pos rfl]; exact hown2)
                have hbw : Below (w.heap.size + 1) wx w2 := ((Below.refl (w.heap.size + 1) wx).alloc hlt _).grown hg2 (Nat.le_trans hlt (by simp)) (fun g e => (Hown.out.lt g e).1)
                have HB2 := Lib.hid ((hbw.block w.heap.size (Nat.lt_succ_self _)).trans HBx.out)
                have Hb2 : Hid (Below w.heap.size w w2) := Lib.hid (Hbx.out.trans (hbw.mono (Nat.le_succ _)))
                clear hown2 hg2 hbw htk hlt
                go_wp2_with (at_builtin; first | (refine wpList_val rfl _ _ (run_append_op (.tmp 153) (.tmp 158) 62 62 rfl rfl rfl hrun) ?_) | (refine wpList_val rfl _ _ (run_append_op (.tmp 153) (.tmp 158) 62 62 rfl (by simp) (by simp) hrun) ?_))
                go_roundw
                case rel => exact ⟨k + 1, by omega, by go_num, ⟨ya, on + 1, yc, by omega, rfl, Ho2.out⟩, HB2.out, Hb2.out⟩
                case measure => simp [intOf]; omega
            · obtain rfl : i = k := by omega
              have ho := Hown.out
              rw [List.take_of_length_le (by rw [finK_len, HAl.out]; exact Nat.le_refl _), HAE.out, Hcv.out] at ho
              have Ho := Lib.hid ho
              clear ho
              go_wp2_with fail
              go_ret
              exact Lib.hid ⟨_, rfl, own_mono Ho.out (Nat.le_succ _), Hbx.out⟩
end Go.Proofs.Ytkjfjcigmmooiaa.Tithe
