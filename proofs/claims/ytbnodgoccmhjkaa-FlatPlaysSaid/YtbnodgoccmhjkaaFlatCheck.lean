/- A model's Check: walked. -/
import Derived.Test.YtbnodgoccmhjkaaFlatBytes
import Derived.Test.YtbnodgoccmhjkaaSizes
namespace Go.Proofs.Ytbnodgoccmhjkaa.Tithe
open Go.RowKit Go.Sort Go.Shelf
set_option linter.unusedVariables false
set_option linter.unusedSimpArgs false
set_option maxRecDepth 100000
theorem grow_cellO {B : Nat} {w w' : World} (hb : Below B w w') {b i : Nat} {v : Value} (hlt : b < B) (h : w.cell? ⟨b, i, none⟩ = some v) : w'.cell? ⟨b, i, none⟩ = some v := (hb.cell (p := ⟨b, i, none⟩) hlt).trans h
/-- a model's block -/
def moC (most last : Int) (wv : Value) (sm im : Nat) (hd : Int) : Array Value := #[.int .i64 most, .int .i64 last, wv, .map (some sm), .map (some im), .int .i64 hd]
def chkM (most last : Int) (l : List Bo) : Int := if okB (last + 1) l then (if most < (rsz (batchB (last + 1) l).length : Int) then 201 else 0) else 100
attribute [local go_sem] Oper.semAt_some
set_option maxHeartbeats 3200000 in
theorem mcheck_any (mb : Nat) (most last : Int) (wv : Value) (sm im : Nat) (hd : Int) (v : Value) (l : List Bo) (w : World) (hB : w.heap[mb]? = some (.cells (moC most last wv sm im hd) 78 (0, 0))) (hl0 : 0 ≤ last) (hl1 : last ≤ 1000000000) (h : IsOs w v l) (hsm : ∀ x ∈ l, x.u.size ≤ 200 ∧ x.v.size ≤ 500) :
    Calls Try.prog 28 #[.pointer (some ⟨mb, 0, none⟩), v] w fun e w' => e = .returned (.int .i64 (chkM most last l)) ∧ Below w.heap.size w w' := by
  have HBy := Lib.hid (bbytes_any (last + 1) v l w h (by omega) hsm)
  have Hsm := Lib.hid hsm
  have HB := Lib.hid hB
  have m0 := (cell_of_blk hB 0).trans (show _ = some (.int .i64 most) from rfl)
  have m1 := (cell_of_blk hB 1).trans (show _ = some (.int .i64 last) from rfl)
  have hw : IntKind.i64.wrap (last + 1) = last + 1 := IntWalk.i64_in _ (by omega)
  obtain ⟨a, c, rfl, -, -, -⟩ := id h
  clear h hsm hB
  generalize l.length = n at *
  go_enter Try.func28, Try.ntmps28
  go_wp2_with fail
  refine HBy.out.mono ?_
  rintro e w2 hq
  obtain ⟨hq1, hb2⟩ := hq.out
  have Hb2 := Lib.hid hb2
  have m0' := grow_cellO hb2 (block_lt_of_cell m0) m0
  clear hq hb2 m0 m1 hw HBy
  rcases hq1 with ⟨hok, rfl⟩ | ⟨hok, v', rfl, hown⟩
  · have Hok := Lib.hid hok
    clear hok
    go_wp2_with fail
    go_ret
    exact ⟨by unfold chkM; rw [Hok.out]; rfl, Hb2.out⟩
  · have hok2 := hok
    unfold okB at hok2
    simp only [Bool.and_eq_true, decide_eq_true_eq] at hok2
    have hle := batchB_le (s := last + 1) Hsm.out hok2.1.1.1.2
    have Hok := Lib.hid hok
    obtain ⟨bn, hbn⟩ : ∃ bn, bn = (batchB (last + 1) l).length := ⟨_, rfl⟩
    rw [← hbn] at hown hle
    obtain ⟨av, cv, rfl⟩ := own_slice hown
    have Hbn := Lib.hid hbn
    have hsz := fun W => rsize_any bn W (by omega)
    have Hsz := Lib.hid hsz
    obtain ⟨rn, hrn⟩ : ∃ rn, rn = rsz bn := ⟨_, rfl⟩
    rw [← hrn] at Hsz
    have Hrn := Lib.hid hrn
    clear hok hok2 hown hbn hsz hrn
    go_upto_region 4 with fail
    by_cases hmo : most < (rn : Int)
    · have d0 : decide ((rn : Int) > most) = true := decide_eq_true (by omega)
      have d1 : decide (most < (rn : Int)) = true := decide_eq_true hmo
      refine wp_region_held_drew (S := fun V' => Hid (Below w2.heap.size w2 V')) (by kernel_rfl) (Lib.hid ((Below.refl _ _).drew)) (fun hS0 => ?_)
      refine wpAnyH_take (i := 0) (oi := { dst := some 22, op := Op.move (Operand.tmp 5), type := 95, pos := "flat.go:47", after := #[], guard := none }) (v := ?_) rfl (by kernel_rfl) (by kernel_rfl) (by kernel_rfl) (fun _ _ _ h => h) (Or.inl ⟨by rfl, ?hy1⟩) hS0 ?_
      case hy1 => (intro V hSw; (try dsimp only at hSw); clear hSw; go_simp; try with_reducible rfl)
      try simp only [Act.put, List.setIfInBounds_toArray, List.set_cons_zero, List.set_cons_succ]
      refine wpAnyH_take (i := 1) (oi := { dst := some 23, op := Op.call { callee := Callee.builtin Builtin.len, args := #[Operand.tmp 22], argTypes := #[95] }, type := 3, pos := "flat.go:47", after := #[{ on := 0, ground := Ground.data }], guard := none }) (v := ?_) rfl (by kernel_rfl) (by kernel_rfl) (by kernel_rfl) (fun _ _ _ h => h) (Or.inl ⟨by rfl, ?hy2⟩) hS0 ?_
      case hy2 => (intro V hSw; (try dsimp only at hSw); clear hSw; go_simp; try with_reducible rfl)
      try simp only [Act.put, List.setIfInBounds_toArray, List.set_cons_zero, List.set_cons_succ]
      refine wpAnyH_take (i := 3) (oi := { dst := some 25, op := Op.move (Operand.tmp 0), type := 25, pos := "flat.go:47", after := #[], guard := none }) (v := ?_) rfl (by kernel_rfl) (by kernel_rfl) (by kernel_rfl) (fun _ _ _ h => h) (Or.inl ⟨by rfl, ?hy3⟩) hS0 ?_
      case hy3 => (intro V hSw; (try dsimp only at hSw); clear hSw; go_simp; try with_reducible rfl)
      try simp only [Act.put, List.setIfInBounds_toArray, List.set_cons_zero, List.set_cons_succ]
      refine wpAnyH_take (i := 4) (oi := { dst := some 26, op := Op.nilCheck (Operand.tmp 25), type := 0, pos := "flat.go:47", after := #[{ on := 3, ground := Ground.data }], guard := none }) (v := ?_) rfl (by kernel_rfl) (by kernel_rfl) (by kernel_rfl) (fun _ _ _ h => h) (Or.inl ⟨by rfl, ?hy4⟩) hS0 ?_
      case hy4 => (intro V hSw; (try dsimp only at hSw); clear hSw; go_simp; try with_reducible rfl)
      try simp only [Act.put, List.setIfInBounds_toArray, List.set_cons_zero, List.set_cons_succ]
      refine wpAnyH_take (i := 5) (oi := { dst := some 27, op := Op.fieldAddr 78 (Operand.tmp 26) 0, type := 0, pos := "flat.go:47", after := #[{ on := 4, ground := Ground.data }], guard := none }) (v := ?_) rfl (by kernel_rfl) (by kernel_rfl) (by kernel_rfl) (fun _ _ _ h => h) (Or.inl ⟨by rfl, ?hy5⟩) hS0 ?_
      case hy5 => (intro V hSw; (try dsimp only at hSw); clear hSw; go_simp; try with_reducible rfl)
      try simp only [Act.put, List.setIfInBounds_toArray, List.set_cons_zero, List.set_cons_succ]
      refine wpAnyH_take (i := 6) (oi := { dst := some 28, op := Op.load 3 (Operand.tmp 27), type := 3, pos := "flat.go:47", after := #[{ on := 5, ground := Ground.data }], guard := none }) (v := ?_) rfl (by kernel_rfl) (by kernel_rfl) (by kernel_rfl) (fun _ _ _ h => h) (Or.inl ⟨by rfl, ?hy6⟩) hS0 ?_
      case hy6 => (intro V hSw; (try dsimp only at hSw); have q0 := grow_cellO hSw.out (block_lt_of_cell m0') m0'; clear hSw; go_simp; try with_reducible rfl)
      try simp only [Act.put, List.setIfInBounds_toArray, List.set_cons_zero, List.set_cons_succ]
      refine wpAnyH_ready (rs := [2]) (by kernel_rfl) (by simp) (AllReadyH.cons rfl (fun K hK => ?_) AllReadyH.nil)
      go_simp
      refine (Hsz.out _).mono ?_
      rintro e wv ⟨rfl, rfl⟩
      refine hK.out _ _ hS0 (fun _ => ?_)
      clear hK K
      try simp only [Act.put, List.setIfInBounds_toArray, List.set_cons_zero, List.set_cons_succ]
      refine wpAnyH_take (i := 7) (oi := { dst := some 29, op := Op.binOp BinOp.gtr 3 (Operand.tmp 24) (Operand.tmp 28) 3, type := 4, pos := "flat.go:47", after := #[{ on := 2, ground := Ground.data }, { on := 6, ground := Ground.data }], guard := none }) (v := ?_) rfl (by kernel_rfl) (by kernel_rfl) (by kernel_rfl) (fun _ _ _ h => h) (Or.inl ⟨by rfl, ?hy7⟩) hS0 ?_
      case hy7 => (intro V hSw; (try dsimp only at hSw); clear hSw; go_simp; try with_reducible rfl)
      try simp only [Act.put, List.setIfInBounds_toArray, List.set_cons_zero, List.set_cons_succ]
      refine wpAnyH_ready (rs := [8]) (by kernel_rfl) (by simp) (AllReadyH.cons rfl (fun K hK => ?_) AllReadyH.nil)
      go_simp
      refine hK.out _ _ hS0 (fun _ => ?_)
      clear hK K
      try simp only [Act.put, List.setIfInBounds_toArray, List.set_cons_zero, List.set_cons_succ]
      refine wpAnyH_done (by kernel_rfl) ?_ _
      go_wp2_with fail
      go_ret
      exact ⟨by unfold chkM; rw [Hok.out, ← Hbn.out, ← Hrn.out, if_pos hmo]; rfl, Hb2.out.trans (hS0.out.mono Hb2.out.size)⟩
    · have d0 : decide ((rn : Int) > most) = false := decide_eq_false (by omega)
      have d1 : decide (most < (rn : Int)) = false := decide_eq_false hmo
      refine wp_region_held_drew (S := fun V' => Hid (Below w2.heap.size w2 V')) (by kernel_rfl) (Lib.hid ((Below.refl _ _).drew)) (fun hS0 => ?_)
      refine wpAnyH_take (i := 0) (oi := { dst := some 22, op := Op.move (Operand.tmp 5), type := 95, pos := "flat.go:47", after := #[], guard := none }) (v := ?_) rfl (by kernel_rfl) (by kernel_rfl) (by kernel_rfl) (fun _ _ _ h => h) (Or.inl ⟨by rfl, ?hy8⟩) hS0 ?_
      case hy8 => (intro V hSw; (try dsimp only at hSw); clear hSw; go_simp; try with_reducible rfl)
      try simp only [Act.put, List.setIfInBounds_toArray, List.set_cons_zero, List.set_cons_succ]
      refine wpAnyH_take (i := 1) (oi := { dst := some 23, op := Op.call { callee := Callee.builtin Builtin.len, args := #[Operand.tmp 22], argTypes := #[95] }, type := 3, pos := "flat.go:47", after := #[{ on := 0, ground := Ground.data }], guard := none }) (v := ?_) rfl (by kernel_rfl) (by kernel_rfl) (by kernel_rfl) (fun _ _ _ h => h) (Or.inl ⟨by rfl, ?hy9⟩) hS0 ?_
      case hy9 => (intro V hSw; (try dsimp only at hSw); clear hSw; go_simp; try with_reducible rfl)
      try simp only [Act.put, List.setIfInBounds_toArray, List.set_cons_zero, List.set_cons_succ]
      refine wpAnyH_take (i := 3) (oi := { dst := some 25, op := Op.move (Operand.tmp 0), type := 25, pos := "flat.go:47", after := #[], guard := none }) (v := ?_) rfl (by kernel_rfl) (by kernel_rfl) (by kernel_rfl) (fun _ _ _ h => h) (Or.inl ⟨by rfl, ?hy10⟩) hS0 ?_
      case hy10 => (intro V hSw; (try dsimp only at hSw); clear hSw; go_simp; try with_reducible rfl)
      try simp only [Act.put, List.setIfInBounds_toArray, List.set_cons_zero, List.set_cons_succ]
      refine wpAnyH_take (i := 4) (oi := { dst := some 26, op := Op.nilCheck (Operand.tmp 25), type := 0, pos := "flat.go:47", after := #[{ on := 3, ground := Ground.data }], guard := none }) (v := ?_) rfl (by kernel_rfl) (by kernel_rfl) (by kernel_rfl) (fun _ _ _ h => h) (Or.inl ⟨by rfl, ?hy11⟩) hS0 ?_
      case hy11 => (intro V hSw; (try dsimp only at hSw); clear hSw; go_simp; try with_reducible rfl)
      try simp only [Act.put, List.setIfInBounds_toArray, List.set_cons_zero, List.set_cons_succ]
      refine wpAnyH_take (i := 5) (oi := { dst := some 27, op := Op.fieldAddr 78 (Operand.tmp 26) 0, type := 0, pos := "flat.go:47", after := #[{ on := 4, ground := Ground.data }], guard := none }) (v := ?_) rfl (by kernel_rfl) (by kernel_rfl) (by kernel_rfl) (fun _ _ _ h => h) (Or.inl ⟨by rfl, ?hy12⟩) hS0 ?_
      case hy12 => (intro V hSw; (try dsimp only at hSw); clear hSw; go_simp; try with_reducible rfl)
      try simp only [Act.put, List.setIfInBounds_toArray, List.set_cons_zero, List.set_cons_succ]
      refine wpAnyH_take (i := 6) (oi := { dst := some 28, op := Op.load 3 (Operand.tmp 27), type := 3, pos := "flat.go:47", after := #[{ on := 5, ground := Ground.data }], guard := none }) (v := ?_) rfl (by kernel_rfl) (by kernel_rfl) (by kernel_rfl) (fun _ _ _ h => h) (Or.inl ⟨by rfl, ?hy13⟩) hS0 ?_
      case hy13 => (intro V hSw; (try dsimp only at hSw); have q0 := grow_cellO hSw.out (block_lt_of_cell m0') m0'; clear hSw; go_simp; try with_reducible rfl)
      try simp only [Act.put, List.setIfInBounds_toArray, List.set_cons_zero, List.set_cons_succ]
      refine wpAnyH_ready (rs := [2]) (by kernel_rfl) (by simp) (AllReadyH.cons rfl (fun K hK => ?_) AllReadyH.nil)
      go_simp
      refine (Hsz.out _).mono ?_
      rintro e wv ⟨rfl, rfl⟩
      refine hK.out _ _ hS0 (fun _ => ?_)
      clear hK K
      try simp only [Act.put, List.setIfInBounds_toArray, List.set_cons_zero, List.set_cons_succ]
      refine wpAnyH_take (i := 7) (oi := { dst := some 29, op := Op.binOp BinOp.gtr 3 (Operand.tmp 24) (Operand.tmp 28) 3, type := 4, pos := "flat.go:47", after := #[{ on := 2, ground := Ground.data }, { on := 6, ground := Ground.data }], guard := none }) (v := ?_) rfl (by kernel_rfl) (by kernel_rfl) (by kernel_rfl) (fun _ _ _ h => h) (Or.inl ⟨by rfl, ?hy14⟩) hS0 ?_
      case hy14 => (intro V hSw; (try dsimp only at hSw); clear hSw; go_simp; try with_reducible rfl)
      try simp only [Act.put, List.setIfInBounds_toArray, List.set_cons_zero, List.set_cons_succ]
      refine wpAnyH_ready (rs := [8]) (by kernel_rfl) (by simp) (AllReadyH.cons rfl (fun K hK => ?_) AllReadyH.nil)
      go_simp
      refine hK.out _ _ hS0 (fun _ => ?_)
      clear hK K
      try simp only [Act.put, List.setIfInBounds_toArray, List.set_cons_zero, List.set_cons_succ]
      refine wpAnyH_done (by kernel_rfl) ?_ _
      go_wp2_with fail
      go_ret
      exact ⟨by unfold chkM; rw [Hok.out, ← Hbn.out, ← Hrn.out, if_neg (show ¬ most < (rn : Int) from by omega)]; rfl, Hb2.out.trans (hS0.out.mono Hb2.out.size)⟩
end Go.Proofs.Ytbnodgoccmhjkaa.Tithe
