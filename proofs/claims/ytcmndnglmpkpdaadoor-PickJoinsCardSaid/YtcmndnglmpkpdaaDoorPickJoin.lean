/- pick.Join: walked. -/
import Derived.Test.YtcmndnglmpkpdaaDoorPickNb
import Derived.Deep.WholeRow
namespace Go.Proofs.YtcmndnglmpkpdaaDoor.Tithe
open Go.RowKit Go.Sort Go.Shelf
set_option linter.unusedVariables false
set_option linter.unusedSimpArgs false
set_option maxRecDepth 100000
/-- the first two neighbours that fit -/
def joinT (l : Nat → List Mr) (f : Int → Int) (size : Int) : Option (Nat × Mr × Mr) := (nbs l 4).find? fun p => decide (f p.2.1.1.z + f p.2.2.1.z ≤ size)
def joinP (o : Option (Nat × Mr × Mr)) : Pn := match o with
  | some p => ⟨p.1, p.1, [p.2.1.1.z], [p.2.2.1.z], ⟨#[]⟩⟩
  | none => Pn.zero
theorem joinT_at {l : Nat → List Mr} {f : Int → Int} {size : Int} {k : Nat} {p : Nat × Mr × Mr} (h : ∀ j q, j < k → (nbs l 4)[j]? = some q → ¬ f q.2.1.1.z + f q.2.2.1.z ≤ size) (hp : (nbs l 4)[k]? = some p) (hz : f p.2.1.1.z + f p.2.2.1.z ≤ size) : joinT l f size = some p := by
  unfold joinT
  have hk := (List.getElem?_eq_some_iff.1 hp)
  exact List.find?_eq_some_iff_getElem.2 ⟨by simpa using hz, k, hk.1, hk.2, fun j hj => by simpa using h j _ hj (List.getElem?_eq_getElem (by have := hk.1; omega))⟩
theorem joinT_none {l : Nat → List Mr} {f : Int → Int} {size : Int} (h : ∀ j q, j < (nbs l 4).length → (nbs l 4)[j]? = some q → ¬ f q.2.1.1.z + f q.2.2.1.z ≤ size) : joinT l f size = none := by
  unfold joinT
  refine List.find?_eq_none.2 (fun q hq => ?_)
  obtain ⟨j, hj, e⟩ := List.mem_iff_getElem.1 hq
  simpa using h j q hj (by rw [List.getElem?_eq_getElem hj, e])
theorem plan2_is {W : World} {ub lb base : Nat} {n : Nat} {a b : Int} (hu : Uz W ub a) (hl : Uz W lb b) (h1 : base ≤ ub) (h2 : base ≤ lb) :
    PlanIs W base #[.int .i64 n, .int .i64 n, .slice (some ⟨ub, 0, none⟩) 1 1, .slice (some ⟨lb, 0, none⟩) 1 1, .string ⟨#[]⟩] ⟨n, n, [a], [b], ⟨#[]⟩⟩ :=
  ⟨_, _, _, _, _, _, rfl, ⟨hu.is, fun ad e => by injection e with e; rw [← e]; exact h1, hu.own h1⟩, hl.is, fun ad e => by injection e with e; rw [← e]; exact h2⟩
def JoI (w : World) (V : Vn) (mb : Nat) (f : Int → Int) (size : Int) (k : Nat) (W : World) : Prop :=
  W.heap[w.heap.size]? = some (.cells V.cells 26 (0, 0)) ∧ W.heap[w.heap.size + 1]? = some (.cells #[.map (some mb)] 61 (0, 0)) ∧ W.heap[w.heap.size + 1 + 1]? = some (.cells #[.int .i64 size] 3 (0, 0)) ∧ W.heap[w.heap.size + 1 + 1 + 1]? = some (.cells #[.int .i64 0, .int .i64 0, .slice none 0 0, .slice none 0 0, .string ⟨#[]⟩] 34 (0, 0)) ∧ W.heap[w.heap.size + 1 + 1 + 1 + 1]? = some (.cells #[.bool false] 4 (0, 0)) ∧
  W.heap[w.heap.size + 1 + 1 + 1 + 1 + 1]? = some (.cells #[.pointer (some ⟨w.heap.size, 0, none⟩)] 101 (0, 0)) ∧ Below w.heap.size w W ∧ ∀ j q, j < k → (nbs V.l 4)[j]? = some q → ¬ f q.2.1.1.z + f q.2.2.1.z ≤ size
theorem joI_own {w : World} {V : Vn} {mb : Nat} {f : Int → Int} {size : Int} {B : Nat} (hB : w.heap.size ≤ B) : OwnFrom B (JoI w V mb f size) :=
  st_and (st_blk _ _ _ _) (st_and (st_blk _ _ _ _) (st_and (st_blk _ _ _ _) (st_and (st_blk _ _ _ _) (st_and (st_blk _ _ _ _) (st_and (st_blk _ _ _ _) (st_and (st_below (Nat.le_refl _) hB) (st_pure _)))))))
def JoX (w : World) (V : Vn) (f : Int → Int) (size : Int) (c : Code) (k : Nat) (W : World) : Prop :=
  c = .ret ∧ ∃ (n : Nat) (x y : Mr) (ub lb : Nat), joinT V.l f size = some (n, x, y) ∧ w.heap.size ≤ ub ∧ w.heap.size ≤ lb ∧ W.heap[w.heap.size + 1 + 1 + 1]? = some (.cells #[.int .i64 n, .int .i64 n, .slice (some ⟨ub, 0, none⟩) 1 1, .slice (some ⟨lb, 0, none⟩) 1 1, .string ⟨#[]⟩] 34 (0, 0)) ∧ W.heap[w.heap.size + 1 + 1 + 1 + 1]? = some (.cells #[.bool true] 4 (0, 0)) ∧ W.heap[ub]? = some (.cells #[.int .i64 x.1.z] 3 (0, 0)) ∧ W.heap[lb]? = some (.cells #[.int .i64 y.1.z] 3 (0, 0)) ∧ Below w.heap.size w W
theorem joX_own {w : World} {V : Vn} {f : Int → Int} {size : Int} {B : Nat} (hB : w.heap.size ≤ B) (c : Code) : OwnFrom B (JoX w V f size c) :=
  st_and (st_pure _) (st_ex fun n => st_ex fun x => st_ex fun y => st_ex fun ub => st_ex fun lb => st_and (st_pure _) (st_and (st_pure _) (st_and (st_pure _) (st_and (st_blk _ _ _ _) (st_and (st_blk _ _ _ _) (st_and (st_blk _ _ _ _) (st_and (st_blk _ _ _ _) (st_below (Nat.le_refl _) hB))))))))
attribute [local go_sem] Oper.semAt_some
set_option maxHeartbeats 6400000 in
theorem join_any (V : Vn) (mb : Nat) (f : Int → Int) (size : Int) (w : World) (h : IsVn w V) (hver : verOk V.l = true) (hl4 : ∀ n, n < 4 → (V.l n).length ≤ 100000) (hsz : -9223372036854775808 ≤ size ∧ size ≤ 9223372036854775807) (hf : ∀ z, 0 ≤ z → z < 64 → 0 ≤ f z ∧ f z ≤ 1048576)
    (hlk : ∀ W', Below w.heap.size w W' → ∀ z : Int, 0 ≤ z → z < 64 → (Instr.lookup 61 (.map (some mb)) (.int .i64 z) false).run Tryd.prog W' = .ok (.int .i64 (f z)) W') :
    Calls Tryd.prog 20 #[.agg V.cells, .map (some mb), .int .i64 size] w fun e w' => Hid (∃ cs, e = .returned (.tuple #[.agg cs, .bool (joinT V.l f size).isSome]) ∧ PlanIs w' w.heap.size cs (joinP (joinT V.l f size)) ∧ Below w.heap.size w w') := by
  have H := Lib.hid h
  have Hver := Lib.hid hver
  have Hl4 := Lib.hid hl4
  have Hf := Lib.hid hf
  have Hlk := Lib.hid hlk
  clear h hver hl4 hf hlk
  unfold Vn.cells
  refine calls_of_marks Tryd.func20 rfl ?_
  simp only [Tryd.ntmps20, List.size_toArray, List.length_cons, List.length_nil, Nat.reduceAdd, Nat.reduceSub, Array.replicate_succ, Array.replicate_zero, List.push_toArray, List.append_toArray, List.nil_append, List.cons_append]
  go_wp2_with fail
  refine (nb_any _ _).mono ?_
  rintro e w' ⟨rfl, rfl⟩
  go_wp2_with fail
  generalize hW : (((((w.alloc (.cells #[V.v 0, V.v 1, V.v 2, V.v 3] 26)).alloc (.cells #[.map (some mb)] 61)).alloc (.cells #[.int .i64 size] 3)).alloc (.cells #[.int .i64 0, .int .i64 0, .slice none 0 0, .slice none 0 0, .string ⟨#[]⟩] 34)).alloc (.cells #[.bool false] 4)).alloc (.cells #[.pointer (some ⟨w.heap.size, 0, none⟩)] 101) = W
  have hWs : W.heap.size = w.heap.size + 1 + 1 + 1 + 1 + 1 + 1 := by rw [← hW]; simp only [World.size_alloc]
  have hI : JoI w V mb f size 0 W := by
    rw [← hW]
    exact ⟨blk_old (blk_old (blk_old (blk_old (blk_old (blk_new rfl _) _) _) _) _) _, blk_old (blk_old (blk_old (blk_old (blk_new (by simp only [World.size_alloc]) _) _) _) _) _, blk_old (blk_old (blk_old (blk_new (by simp only [World.size_alloc]) _) _) _) _, blk_old (blk_old (blk_new (by simp only [World.size_alloc]) _) _) _, blk_old (blk_new (by simp only [World.size_alloc]) _) _, blk_new (by simp only [World.size_alloc]) _,
      ((((((Below.refl _ _).alloc (Nat.le_refl _) _).alloc (by simp) _).alloc (by simp; omega) _).alloc (by simp; omega) _).alloc (by simp; omega) _).alloc (by simp; omega) _, fun j q hj => absurd hj (Nat.not_lt_zero _)⟩
  clear hW
  have HWs := Lib.hid hWs
  clear hWs
  refine range_lawS (gf := 49) (lb := #[.pointer (some ⟨w.heap.size + 1 + 1 + 1 + 1 + 1, 0, none⟩)]) rfl (enters_of Tryd.func49 (by kernel_rfl) rfl)
    (nb_iter (w.heap.size + 1 + 1 + 1 + 1 + 1) w.heap.size V w H.out Hl4.out) (nbEnc_size V.l) (JoI w V mb f size) (JoX w V f size) (fun k X hX => ⟨hX.2.2.2.2.2.1, hX.1, hX.2.2.2.2.2.2.1⟩) (joI_own (by rw [HWs.out]; omega)) (joX_own (by rw [HWs.out]; omega)) hI ?round ?done ?stop
  case round =>
    rintro yl k X hk hXs hJ
    obtain ⟨p, hp⟩ : ∃ p, (nbs V.l 4)[k]? = some p := ⟨_, List.getElem?_eq_getElem hk⟩
    rw [nbEnc_at V.l hp]
    obtain ⟨hp4, hp0, hpx, hpy⟩ := nbs_mem (List.mem_of_getElem? hp)
    have hzx := mOk_zone (verOk_m Hver.out hp4 hpx)
    have hzy := mOk_zone (verOk_m Hver.out hp4 hpy)
    obtain ⟨xra, xrc, hxv, -, -, -⟩ := (H.out p.1 hp4).2 _ hpx
    obtain ⟨yra, yrc, hyv, -, -, -⟩ := (H.out p.1 hp4).2 _ hpy
    obtain ⟨n, ⟨⟨xz, xn, xa, xb, xrefs⟩, xv⟩, ⟨⟨yz, yn, ya, yb, yrefs⟩, yv⟩⟩ := p
    dsimp only at hxv hyv hzx hzy hp4
    have Hp := Lib.hid hp
    have Hj := Lib.hid hJ
    clear hp hJ hpx hpy
    generalize xrefs.length = xrn at *
    generalize yrefs.length = yrn at *
    subst hxv hyv
    rw [show (mrC ((⟨xz, xn, xa, xb, xrefs⟩ : Mt), (.slice xra xrn xrc : Value)) ++ mrC ((⟨yz, yn, ya, yb, yrefs⟩ : Mt), (.slice yra yrn yrc : Value))).toArray = #[.int .i64 xz, .int .i64 xn, .string xa.u, .int .i64 xa.s, .int .i64 xa.k, .string xb.u, .int .i64 xb.s, .int .i64 xb.k, .slice xra xrn xrc, .int .i64 yz, .int .i64 yn, .string ya.u, .int .i64 ya.s, .int .i64 ya.k, .string yb.u, .int .i64 yb.s, .int .i64 yb.k, .slice yra yrn yrc] from rfl]
    obtain ⟨pc, hpc⟩ : ∃ pc : Array Value, pc = #[.int .i64 xz, .int .i64 xn, .string xa.u, .int .i64 xa.s, .int .i64 xa.k, .string xb.u, .int .i64 xb.s, .int .i64 xb.k, .slice xra xrn xrc, .int .i64 yz, .int .i64 yn, .string ya.u, .int .i64 ya.s, .int .i64 ya.k, .string yb.u, .int .i64 yb.s, .int .i64 yb.k, .slice yra yrn yrc] := ⟨_, rfl⟩
    rw [← hpc]
    have Hpc := Lib.hid hpc
    have hps : pc.size = 18 := by rw [hpc]; rfl
    have hone : pc.all (·.oneCell') = true := by rw [hpc]; simp [Value.oneCell']
    have hsn := run_storeAt_new (P := Tryd.prog) X 102 #[.int .i64 0, .int .i64 0, .string ⟨#[]⟩, .int .i64 0, .int .i64 0, .string ⟨#[]⟩, .int .i64 0, .int .i64 0, .slice none 0 0, .int .i64 0, .int .i64 0, .string ⟨#[]⟩, .int .i64 0, .int .i64 0, .string ⟨#[]⟩, .int .i64 0, .int .i64 0, .slice none 0 0] pc (by rw [hps]; kernel_rfl) (by rw [hps]; rfl) hone
    have hsc := run_storeCells_new (P := Tryd.prog) X 102 #[.int .i64 0, .int .i64 0, .string ⟨#[]⟩, .int .i64 0, .int .i64 0, .string ⟨#[]⟩, .int .i64 0, .int .i64 0, .slice none 0 0, .int .i64 0, .int .i64 0, .string ⟨#[]⟩, .int .i64 0, .int .i64 0, .string ⟨#[]⟩, .int .i64 0, .int .i64 0, .slice none 0 0] pc (by rw [hps]; kernel_rfl) (by rw [hps]; rfl) hone
    clear hpc hone
    gi_wp2
    clear hsn hsc
    refine ⟨keeps_of ((Below.refl _ _).alloc (Nat.le_refl _) _), ?_⟩
    intro Y hY
    obtain ⟨g0, g1, g2, g3, g4, g5, g6, g7⟩ := Hj.out
    have hI2 : JoI w V mb f size k Y := st_turn (joI_own (by rw [HWs.out]; omega)) hY ⟨blk_old g0 _, blk_old g1 _, blk_old g2 _, blk_old g3 _, blk_old g4 _, blk_old g5 _, g6.alloc g6.size _, g7⟩
    clear g0 g1 g2 g3 g4 g5 g6 g7
    have hm0 := blk_turn hY (blk_new rfl (.cells pc 102))
    have hm : Y.heap[X.heap.size]? = some (.cells #[.int .i64 xz, .int .i64 xn, .string xa.u, .int .i64 xa.s, .int .i64 xa.k, .string xb.u, .int .i64 xb.s, .int .i64 xb.k, .slice xra xrn xrc, .int .i64 yz, .int .i64 yn, .string ya.u, .int .i64 ya.s, .int .i64 ya.k, .string yb.u, .int .i64 yb.s, .int .i64 yb.k, .slice yra yrn yrc] 102 (0, 0)) := by rw [← Hpc.out]; exact hm0
    clear hm0 hps
    have m0 : Y.cell? ⟨X.heap.size, 0, none⟩ = some (.int .i64 xz) := (cell_of_blk hm 0).trans rfl
    have m9 : Y.cell? ⟨X.heap.size, 9, none⟩ = some (.int .i64 yz) := (cell_of_blk hm 9).trans rfl
    have HI := Lib.hid hI2
    obtain ⟨h0, h1, h2, h3, h4, h5, h6, h7⟩ := hI2
    have c1 : Y.cell? ⟨w.heap.size + 1, 0, none⟩ = some (.map (some mb)) := (cell_of_blk h1 0).trans rfl
    obtain ⟨fx, hfxE⟩ : ∃ a, a = f xz := ⟨_, rfl⟩
    obtain ⟨fy, hfyE⟩ : ∃ a, a = f yz := ⟨_, rfl⟩
    have HLx : Hid (∀ V', Below Y.heap.size Y V' → (Instr.lookup 61 (.map (some mb)) (.int .i64 xz) false).run Tryd.prog V' = .ok (.int .i64 fx) V') := Lib.hid (fun V' hV => by rw [hfxE]; exact Hlk.out V' (h6.trans (hV.mono h6.size)) xz hzx.1 hzx.2)
    have HLy : Hid (∀ V', Below Y.heap.size Y V' → (Instr.lookup 61 (.map (some mb)) (.int .i64 yz) false).run Tryd.prog V' = .ok (.int .i64 fy) V') := Lib.hid (fun V' hV => by rw [hfyE]; exact Hlk.out V' (h6.trans (hV.mono h6.size)) yz hzy.1 hzy.2)
    have hfx : 0 ≤ fx ∧ fx ≤ 1048576 := by rw [hfxE]; exact Hf.out xz hzx.1 hzx.2
    have hfy : 0 ≤ fy ∧ fy ≤ 1048576 := by rw [hfyE]; exact Hf.out yz hzy.1 hzy.2
    have Hm := Lib.hid hm
    have HXs := Lib.hid hXs
    have HYs : Hid (X.heap.size < Y.heap.size) := Lib.hid (blk_lt hm)
    have Hnf : Hid (¬ fx + fy ≤ size → ¬ f xz + f yz ≤ size) := Lib.hid (by rw [hfxE, hfyE]; exact id)
    have Hfs : Hid (fx + fy ≤ size → joinT V.l f size = some (n, (⟨xz, xn, xa, xb, xrefs⟩, .slice xra xrn xrc), (⟨yz, yn, ya, yb, yrefs⟩, .slice yra yrn yrc))) := Lib.hid (fun q => joinT_at h7 Hp.out (by rw [hfxE, hfyE] at q; exact q))
    clear h0 h1 h2 h3 h4 h5 h6 h7 hm hY hzx hzy hXs hfxE hfyE
    gi_wp2_with fail
    refine round_held (S := fun V' => Hid (Below Y.heap.size Y V')) (by kernel_rfl) (by kernel_rfl) ?hlo (Lib.hid ((Below.refl _ _).drew)) (fun hS0 => ?_)
    case hlo => rintro ⟨a, w, h⟩; exact h
    refine wpAnyH_take (i := 0) (oi := { dst := some 15, op := Op.load 61 (Operand.tmp 4), type := 61, pos := "pick.go:102", after := #[], guard := none }) (v := ?_) rfl (by kernel_rfl) (by kernel_rfl) (by kernel_rfl) (fun _ _ _ h => h) (Or.inl ⟨by rfl, ?hy1⟩) hS0 ?_
    case hy1 => (intro V hSw; (try dsimp only at hSw); have q0 := grow_cell hSw.out (block_lt_of_cell m0) m0; have q1 := grow_cell hSw.out (block_lt_of_cell m9) m9; have q2 := grow_cell hSw.out (block_lt_of_cell c1) c1; have q3 := HLx.out _ hSw.out; have q4 := HLy.out _ hSw.out; clear hSw; go_simp; try with_reducible rfl)
    try simp only [Act.put, List.setIfInBounds_toArray, List.set_cons_zero, List.set_cons_succ]
    refine wpAnyH_take (i := 1) (oi := { dst := some 16, op := Op.indexAddr 102 (Operand.tmp 9) (Operand.const (Value.int IntKind.i64 0)), type := 0, pos := "pick.go:102", after := #[], guard := none }) (v := ?_) rfl (by kernel_rfl) (by kernel_rfl) (by kernel_rfl) (fun _ _ _ h => h) (Or.inl ⟨by rfl, ?hy2⟩) hS0 ?_
    case hy2 => (intro V hSw; (try dsimp only at hSw); clear hSw; go_simp; try with_reducible rfl)
    try simp only [Act.put, List.setIfInBounds_toArray, List.set_cons_zero, List.set_cons_succ]
    refine wpAnyH_take (i := 2) (oi := { dst := some 17, op := Op.fieldAddr 49 (Operand.tmp 16) 0, type := 0, pos := "pick.go:102", after := #[{ on := 1, ground := Ground.data }], guard := none }) (v := ?_) rfl (by kernel_rfl) (by kernel_rfl) (by kernel_rfl) (fun _ _ _ h => h) (Or.inl ⟨by rfl, ?hy3⟩) hS0 ?_
    case hy3 => (intro V hSw; (try dsimp only at hSw); clear hSw; go_simp; try with_reducible rfl)
    try simp only [Act.put, List.setIfInBounds_toArray, List.set_cons_zero, List.set_cons_succ]
    refine wpAnyH_take (i := 3) (oi := { dst := some 18, op := Op.load 3 (Operand.tmp 17), type := 3, pos := "pick.go:102", after := #[{ on := 2, ground := Ground.data }], guard := none }) (v := ?_) rfl (by kernel_rfl) (by kernel_rfl) (by kernel_rfl) (fun _ _ _ h => h) (Or.inl ⟨by rfl, ?hy4⟩) hS0 ?_
    case hy4 => (intro V hSw; (try dsimp only at hSw); have q0 := grow_cell hSw.out (block_lt_of_cell m0) m0; have q1 := grow_cell hSw.out (block_lt_of_cell m9) m9; have q2 := grow_cell hSw.out (block_lt_of_cell c1) c1; have q3 := HLx.out _ hSw.out; have q4 := HLy.out _ hSw.out; clear hSw; go_simp; try with_reducible rfl)
    try simp only [Act.put, List.setIfInBounds_toArray, List.set_cons_zero, List.set_cons_succ]
    refine wpAnyH_take (i := 4) (oi := { dst := some 19, op := Op.lookup 61 (Operand.tmp 15) (Operand.tmp 18) false, type := 3, pos := "pick.go:102", after := #[{ on := 0, ground := Ground.data }, { on := 3, ground := Ground.data }], guard := none }) (v := ?_) rfl (by kernel_rfl) (by kernel_rfl) (by kernel_rfl) (fun _ _ _ h => h) (Or.inl ⟨by rfl, ?hy5⟩) hS0 ?_
    case hy5 => (intro V hSw; (try dsimp only at hSw); have q0 := grow_cell hSw.out (block_lt_of_cell m0) m0; have q1 := grow_cell hSw.out (block_lt_of_cell m9) m9; have q2 := grow_cell hSw.out (block_lt_of_cell c1) c1; have q3 := HLx.out _ hSw.out; have q4 := HLy.out _ hSw.out; clear hSw; go_simp; try with_reducible rfl)
    try simp only [Act.put, List.setIfInBounds_toArray, List.set_cons_zero, List.set_cons_succ]
    refine wpAnyH_take (i := 5) (oi := { dst := some 20, op := Op.load 61 (Operand.tmp 4), type := 61, pos := "pick.go:102", after := #[{ on := 10, ground := Ground.gcOnly Departure.lateStores }], guard := none }) (v := ?_) rfl (by kernel_rfl) (by kernel_rfl) (by kernel_rfl) (fun _ _ _ h => h) (Or.inl ⟨by rfl, ?hy6⟩) hS0 ?_
    case hy6 => (intro V hSw; (try dsimp only at hSw); have q0 := grow_cell hSw.out (block_lt_of_cell m0) m0; have q1 := grow_cell hSw.out (block_lt_of_cell m9) m9; have q2 := grow_cell hSw.out (block_lt_of_cell c1) c1; have q3 := HLx.out _ hSw.out; have q4 := HLy.out _ hSw.out; clear hSw; go_simp; try with_reducible rfl)
    try simp only [Act.put, List.setIfInBounds_toArray, List.set_cons_zero, List.set_cons_succ]
    refine wpAnyH_take (i := 6) (oi := { dst := some 21, op := Op.indexAddr 102 (Operand.tmp 9) (Operand.const (Value.int IntKind.i64 1)), type := 0, pos := "pick.go:102", after := #[{ on := 10, ground := Ground.gcOnly Departure.lateStores }], guard := none }) (v := ?_) rfl (by kernel_rfl) (by kernel_rfl) (by kernel_rfl) (fun _ _ _ h => h) (Or.inl ⟨by rfl, ?hy7⟩) hS0 ?_
    case hy7 => (intro V hSw; (try dsimp only at hSw); clear hSw; go_simp; try with_reducible rfl)
    try simp only [Act.put, List.setIfInBounds_toArray, List.set_cons_zero, List.set_cons_succ]
    refine wpAnyH_take (i := 7) (oi := { dst := some 22, op := Op.fieldAddr 49 (Operand.tmp 21) 0, type := 0, pos := "pick.go:102", after := #[{ on := 6, ground := Ground.data }, { on := 10, ground := Ground.gcOnly Departure.lateStores }], guard := none }) (v := ?_) rfl (by kernel_rfl) (by kernel_rfl) (by kernel_rfl) (fun _ _ _ h => h) (Or.inl ⟨by rfl, ?hy8⟩) hS0 ?_
    case hy8 => (intro V hSw; (try dsimp only at hSw); clear hSw; go_simp; try with_reducible rfl)
    try simp only [Act.put, List.setIfInBounds_toArray, List.set_cons_zero, List.set_cons_succ]
    refine wpAnyH_take (i := 8) (oi := { dst := some 23, op := Op.load 3 (Operand.tmp 22), type := 3, pos := "pick.go:102", after := #[{ on := 7, ground := Ground.data }, { on := 10, ground := Ground.gcOnly Departure.lateStores }], guard := none }) (v := ?_) rfl (by kernel_rfl) (by kernel_rfl) (by kernel_rfl) (fun _ _ _ h => h) (Or.inl ⟨by rfl, ?hy9⟩) hS0 ?_
    case hy9 => (intro V hSw; (try dsimp only at hSw); have q0 := grow_cell hSw.out (block_lt_of_cell m0) m0; have q1 := grow_cell hSw.out (block_lt_of_cell m9) m9; have q2 := grow_cell hSw.out (block_lt_of_cell c1) c1; have q3 := HLx.out _ hSw.out; have q4 := HLy.out _ hSw.out; clear hSw; go_simp; try with_reducible rfl)
    try simp only [Act.put, List.setIfInBounds_toArray, List.set_cons_zero, List.set_cons_succ]
    refine wpAnyH_take (i := 9) (oi := { dst := some 24, op := Op.lookup 61 (Operand.tmp 20) (Operand.tmp 23) false, type := 3, pos := "pick.go:102", after := #[{ on := 5, ground := Ground.data }, { on := 8, ground := Ground.data }, { on := 10, ground := Ground.gcOnly Departure.lateStores }], guard := none }) (v := ?_) rfl (by kernel_rfl) (by kernel_rfl) (by kernel_rfl) (fun _ _ _ h => h) (Or.inl ⟨by rfl, ?hy10⟩) hS0 ?_
    case hy10 => (intro V hSw; (try dsimp only at hSw); have q0 := grow_cell hSw.out (block_lt_of_cell m0) m0; have q1 := grow_cell hSw.out (block_lt_of_cell m9) m9; have q2 := grow_cell hSw.out (block_lt_of_cell c1) c1; have q3 := HLx.out _ hSw.out; have q4 := HLy.out _ hSw.out; clear hSw; go_simp; try with_reducible rfl)
    try simp only [Act.put, List.setIfInBounds_toArray, List.set_cons_zero, List.set_cons_succ]
    refine wpAnyH_take (i := 10) (oi := { dst := some 10, op := Op.assign (Operand.tmp 19), type := 3, pos := "pick.go:102", after := #[{ on := 4, ground := Ground.data }, { on := 0, ground := Ground.phase }, { on := 1, ground := Ground.phase }, { on := 2, ground := Ground.phase }, { on := 3, ground := Ground.phase }, { on := 4, ground := Ground.phase }, { on := 5, ground := Ground.textOnly Departure.lateStores }, { on := 6, ground := Ground.textOnly Departure.lateStores }, { on := 7, ground := Ground.textOnly Departure.lateStores }, { on := 8, ground := Ground.textOnly Departure.lateStores }, { on := 9, ground := Ground.textOnly Departure.lateStores }], guard := none }) (v := ?_) rfl (by kernel_rfl) (by kernel_rfl) (by kernel_rfl) (fun _ _ _ h => h) (Or.inl ⟨by rfl, ?hy11⟩) hS0 ?_
    case hy11 => (intro V hSw; (try dsimp only at hSw); clear hSw; go_simp; try with_reducible rfl)
    try simp only [Act.put, List.setIfInBounds_toArray, List.set_cons_zero, List.set_cons_succ]
    refine wpAnyH_ready (rs := [11]) (by kernel_rfl) (by simp) (AllReadyH.cons rfl (fun K hK => ?_) AllReadyH.nil)
    go_simp
    refine hK.out _ _ hS0 (fun _ => ?_)
    clear hK K
    try simp only [Act.put, List.setIfInBounds_toArray, List.set_cons_zero, List.set_cons_succ]
    refine wpAnyH_done (by kernel_rfl) ?_ _
    have HId : Hid (JoI w V mb f size k Y.drew) := Lib.hid (joI_own (B := w.heap.size) (Nat.le_refl _) _ _ _ none HI.out (grownBy_drew Y) (fun r e => by cases e))
    have Hmd := Lib.hid (drew_blk Hm.out)
    have HYs2 : Hid (X.heap.size < Y.drew.heap.size) := HYs
    have HK0 : Hid (KeepsFrom W.heap.size Y Y.drew) := Lib.hid ⟨Nat.le_refl _, fun _ _ _ h _ => h⟩
    generalize hYd : Y.drew = Yd at *
    clear hYd HI Hm HYs m0 m9 c1 HLx HLy hS0
    have m0 : Yd.cell? ⟨X.heap.size, 0, none⟩ = some (.int .i64 xz) := (cell_of_blk Hmd.out 0).trans rfl
    have m9 : Yd.cell? ⟨X.heap.size, 9, none⟩ = some (.int .i64 yz) := (cell_of_blk Hmd.out 9).trans rfl
    obtain ⟨h0, h1, h2, h3, h4, h5, h6, h7⟩ := HId.out
    have c2 : Yd.cell? ⟨w.heap.size + 1 + 1, 0, none⟩ = some (.int .i64 size) := (cell_of_blk h2 0).trans rfl
    have H3 := Lib.hid h3
    have H4 := Lib.hid h4
    have H6 := Lib.hid h6
    have H7 := Lib.hid h7
    clear h0 h1 h2 h3 h4 h5 h6 h7
    have hnot : ¬ fx + fy ≤ size → KeepsFrom W.heap.size Y Yd ∧ JoI w V mb f size (k + 1) Yd := fun q => by
      obtain ⟨h0, h1, h2, h3, h4, h5, h6, h7⟩ := HId.out
      refine ⟨HK0.out, h0, h1, h2, h3, h4, h5, h6, fun j r hj hr => ?_⟩
      rcases Nat.lt_succ_iff_lt_or_eq.1 hj with hj | rfl
      · exact h7 j r hj hr
      · rw [Hp.out] at hr
        injection hr with hr
        subst hr
        have hx9 := Hnf.out (by omega)
        show ¬ f xz + f yz ≤ size
        omega
    have Hnot := Lib.hid hnot
    clear hnot
    by_cases ha : fx ≤ size
    · have da : decide (fx ≤ size) = true := decide_eq_true ha
      have hws : IntKind.i64.wrap (size - fx) = size - fx := IntWalk.i64_in _ (by omega)
      by_cases hb : fy ≤ size - fx
      · have db : decide (fy ≤ size - fx) = true := decide_eq_true hb
        have HT := Lib.hid (Hfs.out (by omega))
        have hAl : Below Yd.heap.size Yd ((Yd.alloc (.cells #[.int .i64 xz] 3)).alloc (.cells #[.int .i64 yz] 3)) := ((Below.refl _ _).alloc (Nat.le_refl _) _).alloc (by simp) _
        have h3 := blk_bels hAl H3.out
        have h4 := blk_bels hAl H4.out
        have t0 := (cell_of_blk h3 0).trans (show _ = some (.int .i64 0) from rfl)
        have t1 := (cell_of_blk h3 1).trans (show _ = some (.int .i64 0) from rfl)
        have t2 := (cell_of_blk h3 2).trans (show _ = some (.slice none 0 0) from rfl)
        have t3 := (cell_of_blk h3 3).trans (show _ = some (.slice none 0 0) from rfl)
        have t4 := (cell_of_blk h3 4).trans (show _ = some (.string ⟨#[]⟩) from rfl)
        have hpz := fun j => frozen_of_blk h3 j
        have hYs3 := HYs2.out
        have hu : ((Yd.alloc (.cells #[.int .i64 xz] 3)).alloc (.cells #[.int .i64 yz] 3)).heap[Yd.heap.size]? = some (.cells #[.int .i64 xz] 3 (0, 0)) := blk_old (blk_of_alloc Yd _) _
        have hl : ((Yd.alloc (.cells #[.int .i64 xz] 3)).alloc (.cells #[.int .i64 yz] 3)).heap[Yd.heap.size + 1]? = some (.cells #[.int .i64 yz] 3 (0, 0)) := blk_new (by simp only [World.size_alloc]) _
        have hY6 : w.heap.size + 1 + 1 + 1 + 1 < Yd.heap.size := blk_lt H4.out
        have k0 : ((Yd.alloc (.cells #[.int .i64 xz] 3)).alloc (.cells #[.int .i64 yz] 3)).cell? ⟨w.heap.size + 1 + 1 + 1 + 1, 0, none⟩ = some (.bool false) := (cell_of_blk h4 0).trans rfl
        have kz := frozen_of_blk h4 0
        have HR3 : Hid (((((((((Yd.alloc (.cells #[.int .i64 xz] 3)).alloc (.cells #[.int .i64 yz] 3)).setCell ⟨w.heap.size + 1 + 1 + 1, 0, none⟩ (.int .i64 n)).setCell ⟨w.heap.size + 1 + 1 + 1, 1, none⟩ (.int .i64 n)).setCell ⟨w.heap.size + 1 + 1 + 1, 2, none⟩ (.slice (some ⟨Yd.heap.size, 0, none⟩) 1 1)).setCell ⟨w.heap.size + 1 + 1 + 1, 3, none⟩ (.slice (some ⟨Yd.heap.size + 1, 0, none⟩) 1 1)).setCell ⟨w.heap.size + 1 + 1 + 1, 4, none⟩ (.string ⟨#[]⟩)).setCell ⟨w.heap.size + 1 + 1 + 1 + 1, 0, none⟩ (.bool true)).heap[w.heap.size + 1 + 1 + 1]? = some (.cells #[.int .i64 n, .int .i64 n, .slice (some ⟨Yd.heap.size, 0, none⟩) 1 1, .slice (some ⟨Yd.heap.size + 1, 0, none⟩) 1 1, .string ⟨#[]⟩] 34 (0, 0))) := Lib.hid ((Below.heap_setCell _ _ _ _ (by simp)).trans ((blk_set (blk_set (blk_set (blk_set (blk_set h3))))).trans rfl))
        have HR4 : Hid (((((((((Yd.alloc (.cells #[.int .i64 xz] 3)).alloc (.cells #[.int .i64 yz] 3)).setCell ⟨w.heap.size + 1 + 1 + 1, 0, none⟩ (.int .i64 n)).setCell ⟨w.heap.size + 1 + 1 + 1, 1, none⟩ (.int .i64 n)).setCell ⟨w.heap.size + 1 + 1 + 1, 2, none⟩ (.slice (some ⟨Yd.heap.size, 0, none⟩) 1 1)).setCell ⟨w.heap.size + 1 + 1 + 1, 3, none⟩ (.slice (some ⟨Yd.heap.size + 1, 0, none⟩) 1 1)).setCell ⟨w.heap.size + 1 + 1 + 1, 4, none⟩ (.string ⟨#[]⟩)).setCell ⟨w.heap.size + 1 + 1 + 1 + 1, 0, none⟩ (.bool true)).heap[w.heap.size + 1 + 1 + 1 + 1]? = some (.cells #[.bool true] 4 (0, 0))) := Lib.hid ((blk_set (blk_set_far (blk_set_far (blk_set_far (blk_set_far (blk_set_far h4 (by omega)) (by omega)) (by omega)) (by omega)) (by omega))).trans rfl)
        have HU : Hid (((((((((Yd.alloc (.cells #[.int .i64 xz] 3)).alloc (.cells #[.int .i64 yz] 3)).setCell ⟨w.heap.size + 1 + 1 + 1, 0, none⟩ (.int .i64 n)).setCell ⟨w.heap.size + 1 + 1 + 1, 1, none⟩ (.int .i64 n)).setCell ⟨w.heap.size + 1 + 1 + 1, 2, none⟩ (.slice (some ⟨Yd.heap.size, 0, none⟩) 1 1)).setCell ⟨w.heap.size + 1 + 1 + 1, 3, none⟩ (.slice (some ⟨Yd.heap.size + 1, 0, none⟩) 1 1)).setCell ⟨w.heap.size + 1 + 1 + 1, 4, none⟩ (.string ⟨#[]⟩)).setCell ⟨w.heap.size + 1 + 1 + 1 + 1, 0, none⟩ (.bool true)).heap[Yd.heap.size]? = some (.cells #[.int .i64 xz] 3 (0, 0))) := Lib.hid (blk_set_far (blk_set_far (blk_set_far (blk_set_far (blk_set_far (blk_set_far hu (by omega)) (by omega)) (by omega)) (by omega)) (by omega)) (by omega))
        have HL : Hid (((((((((Yd.alloc (.cells #[.int .i64 xz] 3)).alloc (.cells #[.int .i64 yz] 3)).setCell ⟨w.heap.size + 1 + 1 + 1, 0, none⟩ (.int .i64 n)).setCell ⟨w.heap.size + 1 + 1 + 1, 1, none⟩ (.int .i64 n)).setCell ⟨w.heap.size + 1 + 1 + 1, 2, none⟩ (.slice (some ⟨Yd.heap.size, 0, none⟩) 1 1)).setCell ⟨w.heap.size + 1 + 1 + 1, 3, none⟩ (.slice (some ⟨Yd.heap.size + 1, 0, none⟩) 1 1)).setCell ⟨w.heap.size + 1 + 1 + 1, 4, none⟩ (.string ⟨#[]⟩)).setCell ⟨w.heap.size + 1 + 1 + 1 + 1, 0, none⟩ (.bool true)).heap[Yd.heap.size + 1]? = some (.cells #[.int .i64 yz] 3 (0, 0))) := Lib.hid (blk_set_far (blk_set_far (blk_set_far (blk_set_far (blk_set_far (blk_set_far hl (by omega)) (by omega)) (by omega)) (by omega)) (by omega)) (by omega))
        have HB2 : Hid (Below w.heap.size w ((((((((Yd.alloc (.cells #[.int .i64 xz] 3)).alloc (.cells #[.int .i64 yz] 3)).setCell ⟨w.heap.size + 1 + 1 + 1, 0, none⟩ (.int .i64 n)).setCell ⟨w.heap.size + 1 + 1 + 1, 1, none⟩ (.int .i64 n)).setCell ⟨w.heap.size + 1 + 1 + 1, 2, none⟩ (.slice (some ⟨Yd.heap.size, 0, none⟩) 1 1)).setCell ⟨w.heap.size + 1 + 1 + 1, 3, none⟩ (.slice (some ⟨Yd.heap.size + 1, 0, none⟩) 1 1)).setCell ⟨w.heap.size + 1 + 1 + 1, 4, none⟩ (.string ⟨#[]⟩)).setCell ⟨w.heap.size + 1 + 1 + 1 + 1, 0, none⟩ (.bool true))) := Lib.hid (((((((H6.out.trans (hAl.mono H6.out.size)).setCell (by simp; omega) _).setCell (by simp; omega) _).setCell (by simp; omega) _).setCell (by simp; omega) _).setCell (by simp; omega) _).setCell (by simp; omega) _)
        have HK2 : Hid (KeepsFrom W.heap.size Y ((((((((Yd.alloc (.cells #[.int .i64 xz] 3)).alloc (.cells #[.int .i64 yz] 3)).setCell ⟨w.heap.size + 1 + 1 + 1, 0, none⟩ (.int .i64 n)).setCell ⟨w.heap.size + 1 + 1 + 1, 1, none⟩ (.int .i64 n)).setCell ⟨w.heap.size + 1 + 1 + 1, 2, none⟩ (.slice (some ⟨Yd.heap.size, 0, none⟩) 1 1)).setCell ⟨w.heap.size + 1 + 1 + 1, 3, none⟩ (.slice (some ⟨Yd.heap.size + 1, 0, none⟩) 1 1)).setCell ⟨w.heap.size + 1 + 1 + 1, 4, none⟩ (.string ⟨#[]⟩)).setCell ⟨w.heap.size + 1 + 1 + 1 + 1, 0, none⟩ (.bool true))) := Lib.hid (HK0.out.trans ((((((((keeps_below' hAl).trans (KeepsOthers.setCell _ _ _)).trans (KeepsOthers.setCell _ _ _)).trans (KeepsOthers.setCell _ _ _)).trans (KeepsOthers.setCell _ _ _)).trans (KeepsOthers.setCell _ _ _)).trans (KeepsOthers.setCell _ _ _)).from _))
        clear hu hl h3 h4
        gi_wp2
        exact ⟨HK2.out, rfl, _, _, _, _, _, HT.out, by omega, by omega, HR3.out, HR4.out, HU.out, HL.out, HB2.out⟩
      · have db : decide (fy ≤ size - fx) = false := decide_eq_false hb
        have HF := Lib.hid (Hnot.out (by omega))
        gi_wp2
        exact HF.out
    · have da : decide (fx ≤ size) = false := decide_eq_false ha
      have HF := Lib.hid (Hnot.out (by omega))
      gi_wp2
      exact HF.out
  case done =>
    rintro D X hD hXs ⟨h0, h1, h2, h3, h4, h5, h6, h7⟩ hK
    have hDw : w.heap.size + 1 + 1 + 1 + 1 + 1 + 1 ≤ D := by have := HWs.out; omega
    have hT : joinT V.l f size = none := joinT_none h7
    have hpc := fun j => cell_of_blk h3 j
    have hpz := fun j => frozen_of_blk h3 j
    have k0 := cell_of_blk h4 0
    have kz := frozen_of_blk h4 0
    have HR3 : Hid (((((((X.setCell ⟨w.heap.size + 1 + 1 + 1, 0, none⟩ (.int .i64 0)).setCell ⟨w.heap.size + 1 + 1 + 1, 1, none⟩ (.int .i64 0)).setCell ⟨w.heap.size + 1 + 1 + 1, 2, none⟩ (.slice none 0 0)).setCell ⟨w.heap.size + 1 + 1 + 1, 3, none⟩ (.slice none 0 0)).setCell ⟨w.heap.size + 1 + 1 + 1, 4, none⟩ (.string ⟨#[]⟩)).setCell ⟨w.heap.size + 1 + 1 + 1 + 1, 0, none⟩ (.bool false)).heap[w.heap.size + 1 + 1 + 1]? = some (.cells #[.int .i64 0, .int .i64 0, .slice none 0 0, .slice none 0 0, .string ⟨#[]⟩] 34 (0, 0))) := Lib.hid ((Below.heap_setCell _ _ _ _ (by simp)).trans ((blk_set (blk_set (blk_set (blk_set (blk_set h3))))).trans rfl))
    have HR4 : Hid (((((((X.setCell ⟨w.heap.size + 1 + 1 + 1, 0, none⟩ (.int .i64 0)).setCell ⟨w.heap.size + 1 + 1 + 1, 1, none⟩ (.int .i64 0)).setCell ⟨w.heap.size + 1 + 1 + 1, 2, none⟩ (.slice none 0 0)).setCell ⟨w.heap.size + 1 + 1 + 1, 3, none⟩ (.slice none 0 0)).setCell ⟨w.heap.size + 1 + 1 + 1, 4, none⟩ (.string ⟨#[]⟩)).setCell ⟨w.heap.size + 1 + 1 + 1 + 1, 0, none⟩ (.bool false)).heap[w.heap.size + 1 + 1 + 1 + 1]? = some (.cells #[.bool false] 4 (0, 0))) := Lib.hid ((blk_set (blk_set_far (blk_set_far (blk_set_far (blk_set_far (blk_set_far h4 (by omega)) (by omega)) (by omega)) (by omega)) (by omega))).trans rfl)
    have KD : Hid (((((((X.setCell ⟨w.heap.size + 1 + 1 + 1, 0, none⟩ (.int .i64 0)).setCell ⟨w.heap.size + 1 + 1 + 1, 1, none⟩ (.int .i64 0)).setCell ⟨w.heap.size + 1 + 1 + 1, 2, none⟩ (.slice none 0 0)).setCell ⟨w.heap.size + 1 + 1 + 1, 3, none⟩ (.slice none 0 0)).setCell ⟨w.heap.size + 1 + 1 + 1, 4, none⟩ (.string ⟨#[]⟩)).setCell ⟨w.heap.size + 1 + 1 + 1 + 1, 0, none⟩ (.bool false)).heap[D]? = some (.deferred (some []))) := Lib.hid (blk_set_far (blk_set_far (blk_set_far (blk_set_far (blk_set_far (blk_set_far hK (by omega)) (by omega)) (by omega)) (by omega)) (by omega)) (by omega))
    have Hb2 : Hid (Below w.heap.size w ((((((X.setCell ⟨w.heap.size + 1 + 1 + 1, 0, none⟩ (.int .i64 0)).setCell ⟨w.heap.size + 1 + 1 + 1, 1, none⟩ (.int .i64 0)).setCell ⟨w.heap.size + 1 + 1 + 1, 2, none⟩ (.slice none 0 0)).setCell ⟨w.heap.size + 1 + 1 + 1, 3, none⟩ (.slice none 0 0)).setCell ⟨w.heap.size + 1 + 1 + 1, 4, none⟩ (.string ⟨#[]⟩)).setCell ⟨w.heap.size + 1 + 1 + 1 + 1, 0, none⟩ (.bool false))) := Lib.hid ((((((h6.setCell (by simp; omega) _).setCell (by simp; omega) _).setCell (by simp; omega) _).setCell (by simp; omega) _).setCell (by simp; omega) _).setCell (by simp; omega) _)
    have HT := Lib.hid hT
    have cm : X.cell? ⟨w.heap.size + 1 + 1 + 1 + 1, 0, none⟩ = some (.bool false) := k0.trans rfl
    clear h0 h1 h2 h3 h4 h5 h6 h7 hK hT k0
    go_wp2
    generalize (((((X.setCell ⟨w.heap.size + 1 + 1 + 1, 0, none⟩ (.int .i64 0)).setCell ⟨w.heap.size + 1 + 1 + 1, 1, none⟩ (.int .i64 0)).setCell ⟨w.heap.size + 1 + 1 + 1, 2, none⟩ (.slice none 0 0)).setCell ⟨w.heap.size + 1 + 1 + 1, 3, none⟩ (.slice none 0 0)).setCell ⟨w.heap.size + 1 + 1 + 1, 4, none⟩ (.string ⟨#[]⟩)).setCell ⟨w.heap.size + 1 + 1 + 1 + 1, 0, none⟩ (.bool false) = X2 at *
    have e0 : (X2.putObj D (.deferred none)).cell? ⟨w.heap.size + 1 + 1 + 1, 0, none⟩ = some (.int .i64 0) := (cell_of_blk (blk_put HR3.out (.deferred none) (by omega)) 0).trans rfl
    have e1 : (X2.putObj D (.deferred none)).cell? ⟨w.heap.size + 1 + 1 + 1, 1, none⟩ = some (.int .i64 0) := (cell_of_blk (blk_put HR3.out (.deferred none) (by omega)) 1).trans rfl
    have e2 : (X2.putObj D (.deferred none)).cell? ⟨w.heap.size + 1 + 1 + 1, 2, none⟩ = some (.slice none 0 0) := (cell_of_blk (blk_put HR3.out (.deferred none) (by omega)) 2).trans rfl
    have e3 : (X2.putObj D (.deferred none)).cell? ⟨w.heap.size + 1 + 1 + 1, 3, none⟩ = some (.slice none 0 0) := (cell_of_blk (blk_put HR3.out (.deferred none) (by omega)) 3).trans rfl
    have e4 : (X2.putObj D (.deferred none)).cell? ⟨w.heap.size + 1 + 1 + 1, 4, none⟩ = some (.string ⟨#[]⟩) := (cell_of_blk (blk_put HR3.out (.deferred none) (by omega)) 4).trans rfl
    have e5 : (X2.putObj D (.deferred none)).cell? ⟨w.heap.size + 1 + 1 + 1 + 1, 0, none⟩ = some (.bool false) := (cell_of_blk (blk_put HR4.out (.deferred none) (by omega)) 0).trans rfl
    refine leave_mark KD.out (v := .tuple #[.agg #[.int .i64 0, .int .i64 0, .slice none 0 0, .slice none 0 0, .string ⟨#[]⟩], .bool false]) ?_ (Lib.hid ⟨_, by rw [HT.out]; rfl, by rw [HT.out]; exact planIs_zero _ _, below_put Hb2.out _ (by omega) Hb2.out.size⟩)
    simp [results, Tryd.results20, go_sem, e0, e1, e2, e3, e4, e5]
  case stop =>
    rintro D c k X hD hXs hk ⟨rfl, n, x, y, ub, lb, hT, hub, hlb, h3, h4, hu, hl, h6⟩ hK
    have hDw : w.heap.size + 1 + 1 + 1 + 1 + 1 + 1 ≤ D := by have := HWs.out; omega
    have hune : ub ≠ D := by rintro rfl; rw [hu] at hK; cases hK
    have hlne : lb ≠ D := by rintro rfl; rw [hl] at hK; cases hK
    go_wp2
    have e0 : (X.putObj D (.deferred none)).cell? ⟨w.heap.size + 1 + 1 + 1, 0, none⟩ = some (.int .i64 n) := (cell_of_blk (blk_put h3 (.deferred none) (by omega)) 0).trans rfl
    have e1 : (X.putObj D (.deferred none)).cell? ⟨w.heap.size + 1 + 1 + 1, 1, none⟩ = some (.int .i64 n) := (cell_of_blk (blk_put h3 (.deferred none) (by omega)) 1).trans rfl
    have e2 : (X.putObj D (.deferred none)).cell? ⟨w.heap.size + 1 + 1 + 1, 2, none⟩ = some (.slice (some ⟨ub, 0, none⟩) 1 1) := (cell_of_blk (blk_put h3 (.deferred none) (by omega)) 2).trans rfl
    have e3 : (X.putObj D (.deferred none)).cell? ⟨w.heap.size + 1 + 1 + 1, 3, none⟩ = some (.slice (some ⟨lb, 0, none⟩) 1 1) := (cell_of_blk (blk_put h3 (.deferred none) (by omega)) 3).trans rfl
    have e4 : (X.putObj D (.deferred none)).cell? ⟨w.heap.size + 1 + 1 + 1, 4, none⟩ = some (.string ⟨#[]⟩) := (cell_of_blk (blk_put h3 (.deferred none) (by omega)) 4).trans rfl
    have e5 : (X.putObj D (.deferred none)).cell? ⟨w.heap.size + 1 + 1 + 1 + 1, 0, none⟩ = some (.bool true) := (cell_of_blk (blk_put h4 (.deferred none) (by omega)) 0).trans rfl
    refine leave_mark hK (v := .tuple #[.agg #[.int .i64 n, .int .i64 n, .slice (some ⟨ub, 0, none⟩) 1 1, .slice (some ⟨lb, 0, none⟩) 1 1, .string ⟨#[]⟩], .bool true]) ?_ (Lib.hid ⟨_, by rw [hT]; rfl, by rw [hT]; exact plan2_is ⟨blk_put hu _ hune⟩ ⟨blk_put hl _ hlne⟩ hub hlb, below_put h6 _ (by omega) h6.size⟩)
    simp [results, Tryd.results20, go_sem, e0, e1, e2, e3, e4, e5]
end Go.Proofs.YtcmndnglmpkpdaaDoor.Tithe
