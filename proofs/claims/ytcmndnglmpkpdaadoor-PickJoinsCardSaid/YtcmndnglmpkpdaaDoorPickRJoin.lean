/- The document's Join: walked. -/
import Derived.Test.YtcmndnglmpkpdaaDoorPickJoin
namespace Go.Proofs.YtcmndnglmpkpdaaDoor.Tithe
open Go.RowKit Go.Sort Go.Shelf
set_option linter.unusedVariables false
set_option linter.unusedSimpArgs false
set_option maxRecDepth 100000
theorem planInfo3 : (Tryd.prog.info? 38).map (·.size) = some 5 := by kernel_rfl
def NoFit (l : Nat → List Mr) (f : Int → Int) (size : Int) (k : Nat) : Prop := ∀ j q, j < k → (nbs l 4)[j]? = some q → ¬ f q.2.1.1.z + f q.2.2.1.z ≤ size
theorem NoFit.next {l : Nat → List Mr} {f : Int → Int} {size : Int} {k : Nat} {p : Nat × Mr × Mr} (h : NoFit l f size k) (hp : (nbs l 4)[k]? = some p) (hz : ¬ f p.2.1.1.z + f p.2.2.1.z ≤ size) : NoFit l f size (k + 1) := by
  intro j r hj hr
  rcases Nat.lt_succ_iff_lt_or_eq.1 hj with hj | rfl
  · exact h j r hj hr
  · rw [hp] at hr
    injection hr with hr
    subst hr
    exact hz
attribute [local go_sem] Oper.semAt_some
set_option maxHeartbeats 6400000 in
theorem rjoin_any (X : Vn) (xb : Nat) (sv : Value) (zs : List Int) (size : Int) (w : World) (hxb : w.heap[xb]? = some (.cells X.cells 68 (0, 0))) (hX : IsVn w X) (hs : IsDz w sv zs) (h64 : zs.length = 64) (hver : verOk X.l = true) (hl4 : ∀ n, n < 4 → (X.l n).length ≤ 100000) (hf : ∀ z : Int, 0 ≤ z → z < 64 → 0 ≤ zs.getD z.toNat 0 ∧ zs.getD z.toNat 0 ≤ 1048576) :
    Calls Tryd.prog 21 #[.pointer (some ⟨xb, 0, none⟩), sv, .int .i64 size] w fun e w' => Hid (∃ cs, e = .returned (.tuple #[.agg cs, .bool (joinT X.l (fun z => zs.getD z.toNat 0) size).isSome]) ∧ PlanIs w' w.heap.size cs (joinP (joinT X.l (fun z => zs.getD z.toNat 0) size)) ∧ Below w.heap.size w w') := by
  obtain ⟨f, hfE⟩ : ∃ f : Int → Int, f = fun z => zs.getD z.toNat 0 := ⟨_, rfl⟩
  rw [← hfE]
  have Hf : Hid (∀ z : Int, 0 ≤ z → z < 64 → 0 ≤ f z ∧ f z ≤ 1048576) := Lib.hid (by rw [hfE]; exact hf)
  have HAl : Hid (Below w.heap.size w (w.alloc (.cells #[.int .i64 0, .int .i64 0, .slice none 0 0, .slice none 0 0, .string ⟨#[]⟩] 38))) := Lib.hid ((Below.refl _ _).alloc (Nat.le_refl _) _)
  have HR : Hid ((w.alloc (.cells #[.int .i64 0, .int .i64 0, .slice none 0 0, .slice none 0 0, .string ⟨#[]⟩] 38)).heap[w.heap.size]? = some (.cells #[.int .i64 0, .int .i64 0, .slice none 0 0, .slice none 0 0, .string ⟨#[]⟩] 38 (0, 0))) := Lib.hid (blk_of_alloc _ _)
  have HX1 := Lib.hid (hX.below HAl.out)
  have Hxb := Lib.hid (blk_bels HAl.out hxb)
  have Hs1 := Lib.hid (hs.below HAl.out)
  have Hver := Lib.hid hver
  have Hl4 := Lib.hid hl4
  obtain ⟨sa, sc, rfl, -, -, -⟩ := id hs
  have Hz : Hid (∃ sb soff, sa = some ⟨sb, soff, none⟩ ∧ ∀ (A : World), Below w.heap.size w A → ∀ z : Int, 0 ≤ z → z < 64 → A.cell? ⟨sb, soff + z.toNat, none⟩ = some (.int .i64 (f z))) := Lib.hid (by
    obtain ⟨-, -, -, hx⟩ := hs.at
    obtain ⟨b, off, e, hc⟩ := hx (by rw [h64]; omega)
    refine ⟨b, off, e, fun A hA z h0 h1 => ?_⟩
    have hz : zs[z.toNat]? = some (f z) := by
      rw [hfE, List.getElem?_eq_getElem (by rw [h64]; omega)]
      show _ = some (zs.getD z.toNat 0)
      rw [List.getD_eq_getElem?_getD, List.getElem?_eq_getElem (by rw [h64]; omega)]; rfl
    exact IsDz.row1 (w := A) (fun i x hi j y hj => (hA.cell (block_lt_of_cell (hc i x hi j y hj))).trans (hc i x hi j y hj)) hz)
  rw [h64]
  clear hX hxb hs hver hl4 hf hfE h64 Hs1
  obtain ⟨sb, soff, rfl, hz⟩ := Hz.out
  have HZ := Lib.hid hz
  clear hz Hz
  go_enter Tryd.func21, Tryd.ntmps21
  go_upto_region 1 with fail
  generalize w.alloc (.cells #[.int .i64 0, .int .i64 0, .slice none 0 0, .slice none 0 0, .string ⟨#[]⟩] 38) = W1 at *
  go_wp2_with fail
  go_loopw [8] (fun nv wr => ∃ n : Nat, 1 ≤ n ∧ n ≤ 4 ∧ nv = .int .i64 n ∧ NoFit X.l f size (nbs X.l n).length ∧ Below W1.heap.size W1 wr) (fun nv _ => 4 - (intOf nv).toNat)
  case atStart => exact ⟨1, by omega, by omega, rfl, fun j q hj => absurd hj (Nat.not_lt_zero _), Below.refl _ _⟩
  case round =>
    obtain ⟨wo, rfl⟩ : ∃ wo : World, wo = wr := ⟨_, rfl⟩
    obtain ⟨n, hn1, hn4, rfl, hno, hb⟩ := hrel
    have Hno := Lib.hid hno
    have Hb := Lib.hid hb
    clear hno hb
    by_cases hlt : n < 4
    · have hni : (n : Int) < 4 := by omega
      have hmr := HX1.out n hlt
      obtain ⟨ra, rc, hsv⟩ := isMr_slice hmr
      obtain ⟨m, hm⟩ : ∃ m, m = (X.l n).length := ⟨_, rfl⟩
      rw [hsv] at hmr
      have hm5 : m ≤ 100000 := by rw [hm]; exact Hl4.out n hlt
      have Hcn : Hid (∀ A : World, Below W1.heap.size W1 A → A.cell? ⟨xb, n, none⟩ = some (.slice ra m rc)) := Lib.hid (fun A hA => (cell_of_blk (blk_bels hA Hxb.out) n).trans (by rw [vn_cell X hlt, hsv, ← hm]))
      rw [← hm] at hmr
      have hMx := hmr.1.at
      have HMx := Lib.hid hMx.2.2.2
      have hKm := hMx.2.1
      have Hm := Lib.hid hm
      clear hm hsv hmr hMx
      go_wp2_with fail
      go_loopw [9] (fun iv wr => ∃ i : Nat, 1 ≤ i ∧ (i = 1 ∨ i ≤ m) ∧ iv = .int .i64 i ∧ NoFit X.l f size ((nbs X.l n).length + (i - 1)) ∧ Below W1.heap.size W1 wr) (fun iv _ => m + 1 - (intOf iv).toNat)
      case atStart => exact ⟨1, by omega, .inl rfl, rfl, Hno.out, Hb.out⟩
      case round =>
        obtain ⟨wq, rfl⟩ : ∃ wq : World, wq = wr := ⟨_, rfl⟩
        obtain ⟨i, hi1, him, rfl, hno2, hbq⟩ := hrel
        have Hno2 := Lib.hid hno2
        have Hbq := Lib.hid hbq
        have hcn := Hcn.out wq hbq
        clear hno2 hbq Hno Hb
        by_cases hiM : i < m
        · obtain ⟨p, rfl⟩ : ∃ p, i = p + 1 := ⟨i - 1, by omega⟩
          obtain ⟨b, off, rfl, hcell⟩ := HMx.out (by omega)
          obtain ⟨x, hx⟩ : ∃ r, (X.l n)[p]? = some r := ⟨_, List.getElem?_eq_getElem (by rw [← Hm.out]; omega)⟩
          obtain ⟨y, hy⟩ : ∃ r, (X.l n)[p + 1]? = some r := ⟨_, List.getElem?_eq_getElem (by rw [← Hm.out]; omega)⟩
          have hta := nbs_at X.l hlt (by omega) hx hy
          have hzx := mOk_zone (verOk_m Hver.out hlt (List.mem_of_getElem? hx))
          have hzy := mOk_zone (verOk_m Hver.out hlt (List.mem_of_getElem? hy))
          have dx := (IsMr.row (w := wq) (fun i x hi j y hj => (Hbq.out.cell (block_lt_of_cell (hcell i x hi j y hj))).trans (hcell i x hi j y hj)) hx).1
          have dy := (IsMr.row (w := wq) (fun i x hi j y hj => (Hbq.out.cell (block_lt_of_cell (hcell i x hi j y hj))).trans (hcell i x hi j y hj)) hy).1
          have hfx0 := Hf.out _ hzx.1 hzx.2
          have hfy0 := Hf.out _ hzy.1 hzy.2
          have Hbd := Lib.hid Hbq.out.drew
          have sx := HZ.out wq.drew (HAl.out.trans (Hbd.out.mono HAl.out.size)) _ hzx.1 hzx.2
          have sy := HZ.out wq.drew (HAl.out.trans (Hbd.out.mono HAl.out.size)) _ hzy.1 hzy.2
          have hnx := fun q => NoFit.next (k := (nbs X.l n).length + p) (by have := Hno2.out; rwa [Nat.add_sub_cancel] at this) hta q
          have hyes := fun q => joinT_at (by have := Hno2.out; rwa [Nat.add_sub_cancel] at this) hta q
          have hpm : (p : Int) + 1 < (m : Int) := by omega
          have hpm2 : (p : Int) < (m : Int) := by omega
          have hwp : IntKind.i64.wrap (p : Int) = (p : Int) := IntWalk.i64_in _ (by omega)
          have hp01 : (0 : Int) ≤ (p : Int) + 1 := by omega
          have hdp : decide ((p : Int) + 1 < (m : Int)) = true := decide_eq_true hpm
          have Hnx := Lib.hid hnx
          have Hyes := Lib.hid hyes
          obtain ⟨xz, hxz⟩ : ∃ z, z = x.1.z := ⟨_, rfl⟩
          obtain ⟨yz, hyz⟩ : ∃ z, z = y.1.z := ⟨_, rfl⟩
          obtain ⟨fx, hfx⟩ : ∃ z, z = f xz := ⟨_, rfl⟩
          obtain ⟨fy, hfy⟩ : ∃ z, z = f yz := ⟨_, rfl⟩
          rw [← hxz] at dx sx hfx0 hzx
          rw [← hyz] at dy sy hfy0 hzy
          rw [← hfx] at sx hfx0
          rw [← hfy] at sy hfy0
          have HE := Lib.hid (And.intro hxz (And.intro hyz (And.intro hfx hfy)))
          have hxt : ((xz.toNat : Nat) : Int) = xz := by omega
          have hyt : ((yz.toNat : Nat) : Int) = yz := by omega
          obtain ⟨hzx0, hzx1⟩ := hzx
          obtain ⟨hzy0, hzy1⟩ := hzy
          have hws : IntKind.i64.wrap (fx + fy) = fx + fy := IntWalk.i64_in _ (by omega)
          have Hsx := Lib.hid sx
          have Hsy := Lib.hid sy
          clear hx hy hta hcell hnx hyes hxz hyz hfx hfy sx sy hxt hyt
          go_upto_region 7 with fail
          clear hdp
          refine wp_region_held_drew (S := fun V' => Hid (Below wq.heap.size wq V')) (by kernel_rfl) (Lib.hid ((Below.refl _ _).drew)) (fun hS0 => ?_)
          refine wpAnyH_take (i := 0) (oi := { dst := some 27, op := Op.move (Operand.tmp 0), type := 27, pos := "ref.go:67", after := #[], guard := none }) (v := ?_) rfl (by kernel_rfl) (by kernel_rfl) (by kernel_rfl) (fun _ _ _ h => h) (Or.inl ⟨by rfl, ?hy1⟩) hS0 ?_
          case hy1 => (intro V hSw; (try dsimp only at hSw); clear hSw; go_simp; try with_reducible rfl)
          try simp only [Act.put, List.setIfInBounds_toArray, List.set_cons_zero, List.set_cons_succ]
          refine wpAnyH_take (i := 1) (oi := { dst := some 28, op := Op.move (Operand.tmp 8), type := 3, pos := "ref.go:67", after := #[], guard := none }) (v := ?_) rfl (by kernel_rfl) (by kernel_rfl) (by kernel_rfl) (fun _ _ _ h => h) (Or.inl ⟨by rfl, ?hy2⟩) hS0 ?_
          case hy2 => (intro V hSw; (try dsimp only at hSw); clear hSw; go_simp; try with_reducible rfl)
          try simp only [Act.put, List.setIfInBounds_toArray, List.set_cons_zero, List.set_cons_succ]
          refine wpAnyH_take (i := 2) (oi := { dst := some 29, op := Op.nilCheck (Operand.tmp 27), type := 0, pos := "ref.go:67", after := #[{ on := 0, ground := Ground.data }], guard := none }) (v := ?_) rfl (by kernel_rfl) (by kernel_rfl) (by kernel_rfl) (fun _ _ _ h => h) (Or.inl ⟨by rfl, ?hy3⟩) hS0 ?_
          case hy3 => (intro V hSw; (try dsimp only at hSw); clear hSw; go_simp; try with_reducible rfl)
          try simp only [Act.put, List.setIfInBounds_toArray, List.set_cons_zero, List.set_cons_succ]
          refine wpAnyH_take (i := 3) (oi := { dst := some 30, op := Op.fieldAddr 68 (Operand.tmp 29) 0, type := 0, pos := "ref.go:67", after := #[{ on := 2, ground := Ground.data }], guard := none }) (v := ?_) rfl (by kernel_rfl) (by kernel_rfl) (by kernel_rfl) (fun _ _ _ h => h) (Or.inl ⟨by rfl, ?hy4⟩) hS0 ?_
          case hy4 => (intro V hSw; (try dsimp only at hSw); clear hSw; go_simp; try with_reducible rfl)
          try simp only [Act.put, List.setIfInBounds_toArray, List.set_cons_zero, List.set_cons_succ]
          refine wpAnyH_take (i := 4) (oi := { dst := some 31, op := Op.indexAddr 66 (Operand.tmp 30) (Operand.tmp 28), type := 0, pos := "ref.go:67", after := #[{ on := 3, ground := Ground.data }, { on := 1, ground := Ground.data }], guard := none }) (v := ?_) rfl (by kernel_rfl) (by kernel_rfl) (by kernel_rfl) (fun _ _ _ h => h) (Or.inl ⟨by rfl, ?hy5⟩) hS0 ?_
          case hy5 => (intro V hSw; (try dsimp only at hSw); clear hSw; go_simp; try with_reducible rfl)
          try simp only [Act.put, List.setIfInBounds_toArray, List.set_cons_zero, List.set_cons_succ]
          refine wpAnyH_take (i := 5) (oi := { dst := some 32, op := Op.load 65 (Operand.tmp 31), type := 65, pos := "ref.go:67", after := #[{ on := 4, ground := Ground.data }], guard := none }) (v := ?_) rfl (by kernel_rfl) (by kernel_rfl) (by kernel_rfl) (fun _ _ _ h => h) (Or.inl ⟨by rfl, ?hy6⟩) hS0 ?_
          case hy6 => (intro V hSw; (try dsimp only at hSw); have q0 := grow_cell hSw.out (block_lt_of_cell hcn) hcn; have q1 := grow_cell hSw.out (block_lt_of_cell dx) dx; have q2 := grow_cell hSw.out (block_lt_of_cell dy) dy; clear hSw; go_simp; try with_reducible rfl)
          try simp only [Act.put, List.setIfInBounds_toArray, List.set_cons_zero, List.set_cons_succ]
          refine wpAnyH_take (i := 6) (oi := { dst := some 33, op := Op.move (Operand.tmp 9), type := 3, pos := "ref.go:67", after := #[], guard := none }) (v := ?_) rfl (by kernel_rfl) (by kernel_rfl) (by kernel_rfl) (fun _ _ _ h => h) (Or.inl ⟨by rfl, ?hy7⟩) hS0 ?_
          case hy7 => (intro V hSw; (try dsimp only at hSw); clear hSw; go_simp; try with_reducible rfl)
          try simp only [Act.put, List.setIfInBounds_toArray, List.set_cons_zero, List.set_cons_succ]
          refine wpAnyH_take (i := 7) (oi := { dst := some 34, op := Op.binOp BinOp.sub 3 (Operand.tmp 33) (Operand.const (Value.int IntKind.i64 1)) 3, type := 3, pos := "ref.go:67", after := #[{ on := 6, ground := Ground.data }], guard := none }) (v := ?_) rfl (by kernel_rfl) (by kernel_rfl) (by kernel_rfl) (fun _ _ _ h => h) (Or.inl ⟨by rfl, ?hy8⟩) hS0 ?_
          case hy8 => (intro V hSw; (try dsimp only at hSw); clear hSw; go_simp; try with_reducible rfl)
          try simp only [Act.put, List.setIfInBounds_toArray, List.set_cons_zero, List.set_cons_succ]
          refine wpAnyH_take (i := 8) (oi := { dst := some 35, op := Op.indexAddr 65 (Operand.tmp 32) (Operand.tmp 34), type := 0, pos := "ref.go:67", after := #[{ on := 5, ground := Ground.data }, { on := 7, ground := Ground.data }], guard := none }) (v := ?_) rfl (by kernel_rfl) (by kernel_rfl) (by kernel_rfl) (fun _ _ _ h => h) (Or.inl ⟨by rfl, ?hy9⟩) hS0 ?_
          case hy9 => (intro V hSw; (try dsimp only at hSw); clear hSw; go_simp; try with_reducible rfl)
          try simp only [Act.put, List.setIfInBounds_toArray, List.set_cons_zero, List.set_cons_succ]
          refine wpAnyH_take (i := 9) (oi := { dst := some 36, op := Op.fieldAddr 73 (Operand.tmp 35) 0, type := 0, pos := "ref.go:67", after := #[{ on := 8, ground := Ground.data }], guard := none }) (v := ?_) rfl (by kernel_rfl) (by kernel_rfl) (by kernel_rfl) (fun _ _ _ h => h) (Or.inl ⟨by rfl, ?hy10⟩) hS0 ?_
          case hy10 => (intro V hSw; (try dsimp only at hSw); clear hSw; go_simp; try with_reducible rfl)
          try simp only [Act.put, List.setIfInBounds_toArray, List.set_cons_zero, List.set_cons_succ]
          refine wpAnyH_take (i := 10) (oi := { dst := some 37, op := Op.load 3 (Operand.tmp 36), type := 3, pos := "ref.go:67", after := #[{ on := 9, ground := Ground.data }], guard := none }) (v := ?_) rfl (by kernel_rfl) (by kernel_rfl) (by kernel_rfl) (fun _ _ _ h => h) (Or.inl ⟨by rfl, ?hy11⟩) hS0 ?_
          case hy11 => (intro V hSw; (try dsimp only at hSw); have q0 := grow_cell hSw.out (block_lt_of_cell hcn) hcn; have q1 := grow_cell hSw.out (block_lt_of_cell dx) dx; have q2 := grow_cell hSw.out (block_lt_of_cell dy) dy; clear hSw; go_simp; try with_reducible rfl)
          try simp only [Act.put, List.setIfInBounds_toArray, List.set_cons_zero, List.set_cons_succ]
          refine wpAnyH_take (i := 11) (oi := { dst := some 38, op := Op.move (Operand.tmp 0), type := 27, pos := "ref.go:67", after := #[{ on := 21, ground := Ground.gcOnly Departure.lateStores }], guard := none }) (v := ?_) rfl (by kernel_rfl) (by kernel_rfl) (by kernel_rfl) (fun _ _ _ h => h) (Or.inl ⟨by rfl, ?hy12⟩) hS0 ?_
          case hy12 => (intro V hSw; (try dsimp only at hSw); clear hSw; go_simp; try with_reducible rfl)
          try simp only [Act.put, List.setIfInBounds_toArray, List.set_cons_zero, List.set_cons_succ]
          refine wpAnyH_take (i := 12) (oi := { dst := some 39, op := Op.move (Operand.tmp 8), type := 3, pos := "ref.go:67", after := #[{ on := 21, ground := Ground.gcOnly Departure.lateStores }], guard := none }) (v := ?_) rfl (by kernel_rfl) (by kernel_rfl) (by kernel_rfl) (fun _ _ _ h => h) (Or.inl ⟨by rfl, ?hy13⟩) hS0 ?_
          case hy13 => (intro V hSw; (try dsimp only at hSw); clear hSw; go_simp; try with_reducible rfl)
          try simp only [Act.put, List.setIfInBounds_toArray, List.set_cons_zero, List.set_cons_succ]
          refine wpAnyH_take (i := 13) (oi := { dst := some 40, op := Op.nilCheck (Operand.tmp 38), type := 0, pos := "ref.go:67", after := #[{ on := 11, ground := Ground.data }, { on := 21, ground := Ground.gcOnly Departure.lateStores }], guard := none }) (v := ?_) rfl (by kernel_rfl) (by kernel_rfl) (by kernel_rfl) (fun _ _ _ h => h) (Or.inl ⟨by rfl, ?hy14⟩) hS0 ?_
          case hy14 => (intro V hSw; (try dsimp only at hSw); clear hSw; go_simp; try with_reducible rfl)
          try simp only [Act.put, List.setIfInBounds_toArray, List.set_cons_zero, List.set_cons_succ]
          refine wpAnyH_take (i := 14) (oi := { dst := some 41, op := Op.fieldAddr 68 (Operand.tmp 40) 0, type := 0, pos := "ref.go:67", after := #[{ on := 13, ground := Ground.data }, { on := 21, ground := Ground.gcOnly Departure.lateStores }], guard := none }) (v := ?_) rfl (by kernel_rfl) (by kernel_rfl) (by kernel_rfl) (fun _ _ _ h => h) (Or.inl ⟨by rfl, ?hy15⟩) hS0 ?_
          case hy15 => (intro V hSw; (try dsimp only at hSw); clear hSw; go_simp; try with_reducible rfl)
          try simp only [Act.put, List.setIfInBounds_toArray, List.set_cons_zero, List.set_cons_succ]
          refine wpAnyH_take (i := 15) (oi := { dst := some 42, op := Op.indexAddr 66 (Operand.tmp 41) (Operand.tmp 39), type := 0, pos := "ref.go:67", after := #[{ on := 14, ground := Ground.data }, { on := 12, ground := Ground.data }, { on := 21, ground := Ground.gcOnly Departure.lateStores }], guard := none }) (v := ?_) rfl (by kernel_rfl) (by kernel_rfl) (by kernel_rfl) (fun _ _ _ h => h) (Or.inl ⟨by rfl, ?hy16⟩) hS0 ?_
          case hy16 => (intro V hSw; (try dsimp only at hSw); clear hSw; go_simp; try with_reducible rfl)
          try simp only [Act.put, List.setIfInBounds_toArray, List.set_cons_zero, List.set_cons_succ]
          refine wpAnyH_take (i := 16) (oi := { dst := some 43, op := Op.load 65 (Operand.tmp 42), type := 65, pos := "ref.go:67", after := #[{ on := 15, ground := Ground.data }, { on := 21, ground := Ground.gcOnly Departure.lateStores }], guard := none }) (v := ?_) rfl (by kernel_rfl) (by kernel_rfl) (by kernel_rfl) (fun _ _ _ h => h) (Or.inl ⟨by rfl, ?hy17⟩) hS0 ?_
          case hy17 => (intro V hSw; (try dsimp only at hSw); have q0 := grow_cell hSw.out (block_lt_of_cell hcn) hcn; have q1 := grow_cell hSw.out (block_lt_of_cell dx) dx; have q2 := grow_cell hSw.out (block_lt_of_cell dy) dy; clear hSw; go_simp; try with_reducible rfl)
          try simp only [Act.put, List.setIfInBounds_toArray, List.set_cons_zero, List.set_cons_succ]
          refine wpAnyH_take (i := 17) (oi := { dst := some 44, op := Op.move (Operand.tmp 9), type := 3, pos := "ref.go:67", after := #[{ on := 21, ground := Ground.gcOnly Departure.lateStores }], guard := none }) (v := ?_) rfl (by kernel_rfl) (by kernel_rfl) (by kernel_rfl) (fun _ _ _ h => h) (Or.inl ⟨by rfl, ?hy18⟩) hS0 ?_
          case hy18 => (intro V hSw; (try dsimp only at hSw); clear hSw; go_simp; try with_reducible rfl)
          try simp only [Act.put, List.setIfInBounds_toArray, List.set_cons_zero, List.set_cons_succ]
          refine wpAnyH_take (i := 18) (oi := { dst := some 45, op := Op.indexAddr 65 (Operand.tmp 43) (Operand.tmp 44), type := 0, pos := "ref.go:67", after := #[{ on := 16, ground := Ground.data }, { on := 17, ground := Ground.data }, { on := 21, ground := Ground.gcOnly Departure.lateStores }], guard := none }) (v := ?_) rfl (by kernel_rfl) (by kernel_rfl) (by kernel_rfl) (fun _ _ _ h => h) (Or.inl ⟨by rfl, ?hy19⟩) hS0 ?_
          case hy19 => (intro V hSw; (try dsimp only at hSw); clear hSw; go_simp; try with_reducible rfl)
          try simp only [Act.put, List.setIfInBounds_toArray, List.set_cons_zero, List.set_cons_succ]
          refine wpAnyH_take (i := 19) (oi := { dst := some 46, op := Op.fieldAddr 73 (Operand.tmp 45) 0, type := 0, pos := "ref.go:67", after := #[{ on := 18, ground := Ground.data }, { on := 21, ground := Ground.gcOnly Departure.lateStores }], guard := none }) (v := ?_) rfl (by kernel_rfl) (by kernel_rfl) (by kernel_rfl) (fun _ _ _ h => h) (Or.inl ⟨by rfl, ?hy20⟩) hS0 ?_
          case hy20 => (intro V hSw; (try dsimp only at hSw); clear hSw; go_simp; try with_reducible rfl)
          try simp only [Act.put, List.setIfInBounds_toArray, List.set_cons_zero, List.set_cons_succ]
          refine wpAnyH_take (i := 20) (oi := { dst := some 47, op := Op.load 3 (Operand.tmp 46), type := 3, pos := "ref.go:67", after := #[{ on := 19, ground := Ground.data }, { on := 21, ground := Ground.gcOnly Departure.lateStores }], guard := none }) (v := ?_) rfl (by kernel_rfl) (by kernel_rfl) (by kernel_rfl) (fun _ _ _ h => h) (Or.inl ⟨by rfl, ?hy21⟩) hS0 ?_
          case hy21 => (intro V hSw; (try dsimp only at hSw); have q0 := grow_cell hSw.out (block_lt_of_cell hcn) hcn; have q1 := grow_cell hSw.out (block_lt_of_cell dx) dx; have q2 := grow_cell hSw.out (block_lt_of_cell dy) dy; clear hSw; go_simp; try with_reducible rfl)
          try simp only [Act.put, List.setIfInBounds_toArray, List.set_cons_zero, List.set_cons_succ]
          refine wpAnyH_take (i := 21) (oi := { dst := some 10, op := Op.assign (Operand.tmp 37), type := 3, pos := "ref.go:67", after := #[{ on := 10, ground := Ground.data }, { on := 0, ground := Ground.phase }, { on := 1, ground := Ground.phase }, { on := 2, ground := Ground.phase }, { on := 3, ground := Ground.phase }, { on := 4, ground := Ground.phase }, { on := 5, ground := Ground.phase }, { on := 6, ground := Ground.phase }, { on := 7, ground := Ground.phase }, { on := 8, ground := Ground.phase }, { on := 9, ground := Ground.phase }, { on := 10, ground := Ground.phase }, { on := 11, ground := Ground.textOnly Departure.lateStores }, { on := 12, ground := Ground.textOnly Departure.lateStores }, { on := 13, ground := Ground.textOnly Departure.lateStores }, { on := 14, ground := Ground.textOnly Departure.lateStores }, { on := 15, ground := Ground.textOnly Departure.lateStores }, { on := 16, ground := Ground.textOnly Departure.lateStores }, { on := 17, ground := Ground.textOnly Departure.lateStores }, { on := 18, ground := Ground.textOnly Departure.lateStores }, { on := 19, ground := Ground.textOnly Departure.lateStores }, { on := 20, ground := Ground.textOnly Departure.lateStores }], guard := none }) (v := ?_) rfl (by kernel_rfl) (by kernel_rfl) (by kernel_rfl) (fun _ _ _ h => h) (Or.inl ⟨by rfl, ?hy22⟩) hS0 ?_
          case hy22 => (intro V hSw; (try dsimp only at hSw); clear hSw; go_simp; try with_reducible rfl)
          try simp only [Act.put, List.setIfInBounds_toArray, List.set_cons_zero, List.set_cons_succ]
          refine wpAnyH_ready (rs := [22]) (by kernel_rfl) (by simp) (AllReadyH.cons rfl (fun K hK => ?_) AllReadyH.nil)
          go_simp
          refine hK.out _ _ hS0 (fun _ => ?_)
          clear hK K
          try simp only [Act.put, List.setIfInBounds_toArray, List.set_cons_zero, List.set_cons_succ]
          refine wpAnyH_done (by kernel_rfl) ?_ _
          have sx := Hsx.out
          have sy := Hsy.out
          have HbB := Lib.hid Hbd.out.drew
          generalize wq.drew = Wa at *
          clear hS0 dx dy hcn
          go_upto_region 8 with fail
          refine wp_region_held_drew (S := fun V' => Hid (Below Wa.heap.size Wa V')) (by kernel_rfl) (Lib.hid ((Below.refl _ _).drew)) (fun hS0 => ?_)
          refine wpAnyH_take (i := 0) (oi := { dst := some 48, op := Op.move (Operand.tmp 1), type := 32, pos := "ref.go:68", after := #[], guard := none }) (v := ?_) rfl (by kernel_rfl) (by kernel_rfl) (by kernel_rfl) (fun _ _ _ h => h) (Or.inl ⟨by rfl, ?hy23⟩) hS0 ?_
          case hy23 => (intro V hSw; (try dsimp only at hSw); clear hSw; go_simp; try with_reducible rfl)
          try simp only [Act.put, List.setIfInBounds_toArray, List.set_cons_zero, List.set_cons_succ]
          refine wpAnyH_take (i := 1) (oi := { dst := some 49, op := Op.move (Operand.tmp 10), type := 3, pos := "ref.go:68", after := #[], guard := none }) (v := ?_) rfl (by kernel_rfl) (by kernel_rfl) (by kernel_rfl) (fun _ _ _ h => h) (Or.inl ⟨by rfl, ?hy24⟩) hS0 ?_
          case hy24 => (intro V hSw; (try dsimp only at hSw); clear hSw; go_simp; try with_reducible rfl)
          try simp only [Act.put, List.setIfInBounds_toArray, List.set_cons_zero, List.set_cons_succ]
          refine wpAnyH_take (i := 2) (oi := { dst := some 50, op := Op.indexAddr 32 (Operand.tmp 48) (Operand.tmp 49), type := 0, pos := "ref.go:68", after := #[{ on := 0, ground := Ground.data }, { on := 1, ground := Ground.data }], guard := none }) (v := ?_) rfl (by kernel_rfl) (by kernel_rfl) (by kernel_rfl) (fun _ _ _ h => h) (Or.inl ⟨by rfl, ?hy25⟩) hS0 ?_
          case hy25 => (intro V hSw; (try dsimp only at hSw); clear hSw; go_simp; try with_reducible rfl)
          try simp only [Act.put, List.setIfInBounds_toArray, List.set_cons_zero, List.set_cons_succ]
          refine wpAnyH_take (i := 3) (oi := { dst := some 51, op := Op.load 3 (Operand.tmp 50), type := 3, pos := "ref.go:68", after := #[{ on := 2, ground := Ground.data }], guard := none }) (v := ?_) rfl (by kernel_rfl) (by kernel_rfl) (by kernel_rfl) (fun _ _ _ h => h) (Or.inl ⟨by rfl, ?hy26⟩) hS0 ?_
          case hy26 => (intro V hSw; (try dsimp only at hSw); have q0 := grow_cell hSw.out (block_lt_of_cell sx) sx; have q1 := grow_cell hSw.out (block_lt_of_cell sy) sy; clear hSw; go_simp; try with_reducible rfl)
          try simp only [Act.put, List.setIfInBounds_toArray, List.set_cons_zero, List.set_cons_succ]
          refine wpAnyH_take (i := 4) (oi := { dst := some 52, op := Op.move (Operand.tmp 1), type := 32, pos := "ref.go:68", after := #[], guard := none }) (v := ?_) rfl (by kernel_rfl) (by kernel_rfl) (by kernel_rfl) (fun _ _ _ h => h) (Or.inl ⟨by rfl, ?hy27⟩) hS0 ?_
          case hy27 => (intro V hSw; (try dsimp only at hSw); clear hSw; go_simp; try with_reducible rfl)
          try simp only [Act.put, List.setIfInBounds_toArray, List.set_cons_zero, List.set_cons_succ]
          refine wpAnyH_take (i := 5) (oi := { dst := some 53, op := Op.move (Operand.tmp 11), type := 3, pos := "ref.go:68", after := #[], guard := none }) (v := ?_) rfl (by kernel_rfl) (by kernel_rfl) (by kernel_rfl) (fun _ _ _ h => h) (Or.inl ⟨by rfl, ?hy28⟩) hS0 ?_
          case hy28 => (intro V hSw; (try dsimp only at hSw); clear hSw; go_simp; try with_reducible rfl)
          try simp only [Act.put, List.setIfInBounds_toArray, List.set_cons_zero, List.set_cons_succ]
          refine wpAnyH_take (i := 6) (oi := { dst := some 54, op := Op.indexAddr 32 (Operand.tmp 52) (Operand.tmp 53), type := 0, pos := "ref.go:68", after := #[{ on := 4, ground := Ground.data }, { on := 5, ground := Ground.data }], guard := none }) (v := ?_) rfl (by kernel_rfl) (by kernel_rfl) (by kernel_rfl) (fun _ _ _ h => h) (Or.inl ⟨by rfl, ?hy29⟩) hS0 ?_
          case hy29 => (intro V hSw; (try dsimp only at hSw); clear hSw; go_simp; try with_reducible rfl)
          try simp only [Act.put, List.setIfInBounds_toArray, List.set_cons_zero, List.set_cons_succ]
          refine wpAnyH_take (i := 7) (oi := { dst := some 55, op := Op.load 3 (Operand.tmp 54), type := 3, pos := "ref.go:68", after := #[{ on := 6, ground := Ground.data }], guard := none }) (v := ?_) rfl (by kernel_rfl) (by kernel_rfl) (by kernel_rfl) (fun _ _ _ h => h) (Or.inl ⟨by rfl, ?hy30⟩) hS0 ?_
          case hy30 => (intro V hSw; (try dsimp only at hSw); have q0 := grow_cell hSw.out (block_lt_of_cell sx) sx; have q1 := grow_cell hSw.out (block_lt_of_cell sy) sy; clear hSw; go_simp; try with_reducible rfl)
          try simp only [Act.put, List.setIfInBounds_toArray, List.set_cons_zero, List.set_cons_succ]
          refine wpAnyH_take (i := 8) (oi := { dst := some 56, op := Op.binOp BinOp.add 3 (Operand.tmp 51) (Operand.tmp 55) 3, type := 3, pos := "ref.go:68", after := #[{ on := 3, ground := Ground.data }, { on := 7, ground := Ground.data }], guard := none }) (v := ?_) rfl (by kernel_rfl) (by kernel_rfl) (by kernel_rfl) (fun _ _ _ h => h) (Or.inl ⟨by rfl, ?hy31⟩) hS0 ?_
          case hy31 => (intro V hSw; (try dsimp only at hSw); clear hSw; go_simp; try with_reducible rfl)
          try simp only [Act.put, List.setIfInBounds_toArray, List.set_cons_zero, List.set_cons_succ]
          refine wpAnyH_take (i := 9) (oi := { dst := some 57, op := Op.move (Operand.tmp 2), type := 3, pos := "ref.go:68", after := #[], guard := none }) (v := ?_) rfl (by kernel_rfl) (by kernel_rfl) (by kernel_rfl) (fun _ _ _ h => h) (Or.inl ⟨by rfl, ?hy32⟩) hS0 ?_
          case hy32 => (intro V hSw; (try dsimp only at hSw); clear hSw; go_simp; try with_reducible rfl)
          try simp only [Act.put, List.setIfInBounds_toArray, List.set_cons_zero, List.set_cons_succ]
          refine wpAnyH_take (i := 10) (oi := { dst := some 58, op := Op.binOp BinOp.leq 3 (Operand.tmp 56) (Operand.tmp 57) 3, type := 4, pos := "ref.go:68", after := #[{ on := 8, ground := Ground.data }, { on := 9, ground := Ground.data }], guard := none }) (v := ?_) rfl (by kernel_rfl) (by kernel_rfl) (by kernel_rfl) (fun _ _ _ h => h) (Or.inl ⟨by rfl, ?hy33⟩) hS0 ?_
          case hy33 => (intro V hSw; (try dsimp only at hSw); clear hSw; go_simp; try with_reducible rfl)
          try simp only [Act.put, List.setIfInBounds_toArray, List.set_cons_zero, List.set_cons_succ]
          refine wpAnyH_done (by kernel_rfl) ?_ _
          generalize Wa.drew = Wb at *
          clear hS0 sx sy
          by_cases hfit : fx + fy ≤ size
          · have dfit : decide (fx + fy ≤ size) = true := decide_eq_true hfit
            have HT := Lib.hid (Hyes.out (by obtain ⟨e1, e2, e3, e4⟩ := HE.out; rw [← e1, ← e2, ← e3, ← e4]; exact hfit))
            have hAl : Below Wb.heap.size Wb ((Wb.alloc (.cells #[.int .i64 xz] 3)).alloc (.cells #[.int .i64 yz] 3)) := ((Below.refl _ _).alloc (Nat.le_refl _) _).alloc (by simp) _
            have HRb := Lib.hid (blk_bels (HbB.out.trans (hAl.mono HbB.out.size)) HR.out)
            have HBb := Lib.hid (HAl.out.trans ((HbB.out.trans (hAl.mono HbB.out.size)).mono HAl.out.size))
            have hWb : w.heap.size < Wb.heap.size := blk_lt (blk_bels HbB.out HR.out)
            have hu : ((Wb.alloc (.cells #[.int .i64 xz] 3)).alloc (.cells #[.int .i64 yz] 3)).heap[Wb.heap.size]? = some (.cells #[.int .i64 xz] 3 (0, 0)) := blk_old (blk_of_alloc Wb _) _
            have hl : ((Wb.alloc (.cells #[.int .i64 xz] 3)).alloc (.cells #[.int .i64 yz] 3)).heap[Wb.heap.size + 1]? = some (.cells #[.int .i64 yz] 3 (0, 0)) := blk_new (by simp only [World.size_alloc]) _
            have HF0 : Hid (((((((((Wb.alloc (.cells #[.int .i64 xz] 3)).alloc (.cells #[.int .i64 yz] 3)).setCell ⟨w.heap.size, 0, none⟩ (.int .i64 n)).setCell ⟨w.heap.size, 1, none⟩ (.int .i64 n)).setCell ⟨w.heap.size, 2, none⟩ (.slice (some ⟨Wb.heap.size, 0, none⟩) 1 1)).setCell ⟨w.heap.size, 3, none⟩ (.slice (some ⟨Wb.heap.size + 1, 0, none⟩) 1 1)).setCell ⟨w.heap.size, 4, none⟩ (.string ⟨#[]⟩))).heap[w.heap.size]? = some (.cells #[.int .i64 n, .int .i64 n, .slice (some ⟨Wb.heap.size, 0, none⟩) 1 1, .slice (some ⟨Wb.heap.size + 1, 0, none⟩) 1 1, .string ⟨#[]⟩] 38 (0, 0)) ∧ Below w.heap.size w ((((((((Wb.alloc (.cells #[.int .i64 xz] 3)).alloc (.cells #[.int .i64 yz] 3)).setCell ⟨w.heap.size, 0, none⟩ (.int .i64 n)).setCell ⟨w.heap.size, 1, none⟩ (.int .i64 n)).setCell ⟨w.heap.size, 2, none⟩ (.slice (some ⟨Wb.heap.size, 0, none⟩) 1 1)).setCell ⟨w.heap.size, 3, none⟩ (.slice (some ⟨Wb.heap.size + 1, 0, none⟩) 1 1)).setCell ⟨w.heap.size, 4, none⟩ (.string ⟨#[]⟩)))) := Lib.hid ⟨(blk_set (blk_set (blk_set (blk_set (blk_set HRb.out))))).trans rfl, ((((HBb.out.setCell (p := ⟨w.heap.size, 0, none⟩) (Nat.le_refl _) _).setCell (p := ⟨w.heap.size, 1, none⟩) (Nat.le_refl _) _).setCell (p := ⟨w.heap.size, 2, none⟩) (Nat.le_refl _) _).setCell (p := ⟨w.heap.size, 3, none⟩) (Nat.le_refl _) _).setCell (p := ⟨w.heap.size, 4, none⟩) (Nat.le_refl _) _⟩
            have HU : Hid (Uz ((((((((Wb.alloc (.cells #[.int .i64 xz] 3)).alloc (.cells #[.int .i64 yz] 3)).setCell ⟨w.heap.size, 0, none⟩ (.int .i64 n)).setCell ⟨w.heap.size, 1, none⟩ (.int .i64 n)).setCell ⟨w.heap.size, 2, none⟩ (.slice (some ⟨Wb.heap.size, 0, none⟩) 1 1)).setCell ⟨w.heap.size, 3, none⟩ (.slice (some ⟨Wb.heap.size + 1, 0, none⟩) 1 1)).setCell ⟨w.heap.size, 4, none⟩ (.string ⟨#[]⟩))) Wb.heap.size xz) := Lib.hid (uz_set (uz_set (uz_set (uz_set (uz_set ⟨hu⟩ (by omega)) (by omega)) (by omega)) (by omega)) (by omega))
            have HL : Hid (Uz ((((((((Wb.alloc (.cells #[.int .i64 xz] 3)).alloc (.cells #[.int .i64 yz] 3)).setCell ⟨w.heap.size, 0, none⟩ (.int .i64 n)).setCell ⟨w.heap.size, 1, none⟩ (.int .i64 n)).setCell ⟨w.heap.size, 2, none⟩ (.slice (some ⟨Wb.heap.size, 0, none⟩) 1 1)).setCell ⟨w.heap.size, 3, none⟩ (.slice (some ⟨Wb.heap.size + 1, 0, none⟩) 1 1)).setCell ⟨w.heap.size, 4, none⟩ (.string ⟨#[]⟩))) (Wb.heap.size + 1) yz) := Lib.hid (uz_set (uz_set (uz_set (uz_set (uz_set ⟨hl⟩ (by omega)) (by omega)) (by omega)) (by omega)) (by omega))
            have t0 := (cell_of_blk HRb.out 0).trans (show _ = some (.int .i64 0) from rfl)
            have t1 := (cell_of_blk HRb.out 1).trans (show _ = some (.int .i64 0) from rfl)
            have t2 := (cell_of_blk HRb.out 2).trans (show _ = some (.slice none 0 0) from rfl)
            have t3 := (cell_of_blk HRb.out 3).trans (show _ = some (.slice none 0 0) from rfl)
            have t4 := (cell_of_blk HRb.out 4).trans (show _ = some (.string ⟨#[]⟩) from rfl)
            have tz := fun j => frozen_of_blk HRb.out j
            have HWb := Lib.hid hWb
            clear hu hl hAl hWb
            go_wp2_with fail
            refine bodyPost_ret (results_row_slot Tryd.results21 _ _ w.heap.size 38 _ (0, 0) _ _ rfl rfl HF0.out.1 Tryd.underlying38 rfl planInfo3) rfl ?_
            refine Lib.hid ⟨_, by rw [HT.out]; rfl, ?_, HF0.out.2⟩
            rw [HT.out]
            show PlanIs _ _ _ ⟨n, n, [x.1.z], [y.1.z], ⟨#[]⟩⟩
            rw [← HE.out.1, ← HE.out.2.1]
            exact plan2_is HU.out HL.out (Nat.le_of_lt HWb.out) (Nat.le_succ_of_le (Nat.le_of_lt HWb.out))
          · have dfit : decide (fx + fy ≤ size) = false := decide_eq_false hfit
            have HN := Lib.hid (Hnx.out (by obtain ⟨e1, e2, e3, e4⟩ := HE.out; rw [← e1, ← e2, ← e3, ← e4]; exact hfit))
            go_wp2_with fail
            go_roundw
            case rel => exact ⟨p + 1 + 1, by omega, .inr (by omega), by go_num, HN.out, HbB.out⟩
            case measure => simp [intOf]; omega
        · have hnx : NoFit X.l f size (nbs X.l (n + 1)).length := by
            rw [nbs_succ_len, if_neg (by omega), ← Hm.out, show m - 1 = i - 1 by omega]; exact Hno2.out
          have Hnx := Lib.hid hnx
          clear hnx
          have hdi : decide ((i : Int) < (m : Int)) = false := decide_eq_false (by omega)
          go_wp2_with fail
          go_roundw
          case rel => exact ⟨n + 1, by omega, by omega, by go_num, Hnx.out, Hbq.out⟩
          case measure => simp [intOf]; omega
    · obtain rfl : n = 4 := by omega
      have HT := Lib.hid (joinT_none (l := X.l) (f := f) (size := size) Hno.out)
      have HRb := Lib.hid (blk_bels Hb.out HR.out)
      have HBb := Lib.hid (HAl.out.trans (Hb.out.mono HAl.out.size))
      have HF0 : Hid (((((((wo.setCell ⟨w.heap.size, 0, none⟩ (.int .i64 0)).setCell ⟨w.heap.size, 1, none⟩ (.int .i64 0)).setCell ⟨w.heap.size, 2, none⟩ (.slice none 0 0)).setCell ⟨w.heap.size, 3, none⟩ (.slice none 0 0)).setCell ⟨w.heap.size, 4, none⟩ (.string ⟨#[]⟩))).heap[w.heap.size]? = some (.cells #[.int .i64 0, .int .i64 0, .slice none 0 0, .slice none 0 0, .string ⟨#[]⟩] 38 (0, 0)) ∧ Below w.heap.size w ((((((wo.setCell ⟨w.heap.size, 0, none⟩ (.int .i64 0)).setCell ⟨w.heap.size, 1, none⟩ (.int .i64 0)).setCell ⟨w.heap.size, 2, none⟩ (.slice none 0 0)).setCell ⟨w.heap.size, 3, none⟩ (.slice none 0 0)).setCell ⟨w.heap.size, 4, none⟩ (.string ⟨#[]⟩)))) := Lib.hid ⟨(blk_set (blk_set (blk_set (blk_set (blk_set HRb.out))))).trans rfl, ((((HBb.out.setCell (p := ⟨w.heap.size, 0, none⟩) (Nat.le_refl _) _).setCell (p := ⟨w.heap.size, 1, none⟩) (Nat.le_refl _) _).setCell (p := ⟨w.heap.size, 2, none⟩) (Nat.le_refl _) _).setCell (p := ⟨w.heap.size, 3, none⟩) (Nat.le_refl _) _).setCell (p := ⟨w.heap.size, 4, none⟩) (Nat.le_refl _) _⟩
      have t0 := (cell_of_blk HRb.out 0).trans (show _ = some (.int .i64 0) from rfl)
      have t1 := (cell_of_blk HRb.out 1).trans (show _ = some (.int .i64 0) from rfl)
      have t2 := (cell_of_blk HRb.out 2).trans (show _ = some (.slice none 0 0) from rfl)
      have t3 := (cell_of_blk HRb.out 3).trans (show _ = some (.slice none 0 0) from rfl)
      have t4 := (cell_of_blk HRb.out 4).trans (show _ = some (.string ⟨#[]⟩) from rfl)
      have tz := fun j => frozen_of_blk HRb.out j
      go_wp2_with fail
      refine bodyPost_ret (results_row_slot Tryd.results21 _ _ w.heap.size 38 _ (0, 0) _ _ rfl rfl HF0.out.1 Tryd.underlying38 rfl planInfo3) rfl ?_
      exact Lib.hid ⟨_, by rw [HT.out]; rfl, by rw [HT.out]; exact planIs_zero _ _, HF0.out.2⟩
end Go.Proofs.YtcmndnglmpkpdaaDoor.Tithe
