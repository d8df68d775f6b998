/- The document's Get: walked, of an ordered list. -/
import Derived.Test.YtkjfjcigmmooiaaEntRefE
import Derived.Test.YtkjfjcigmmooiaaLevRef
namespace Go.Proofs.Ytkjfjcigmmooiaa.Tithe
open Go.RowKit Go.Sort Go.Shelf
set_option linter.unusedVariables false
set_option linter.unusedSimpArgs false
set_option maxRecDepth 100000
def getP (u : ByteArray) (s : Int) (x : En) : Bool := decide (x.key.u = u) && decide (x.key.s ≤ s)
def getI (l : List En) (u : ByteArray) (s : Int) : Int := match l.findIdx? (getP u s) with | some i => (i : Int) | none => -1
theorem get_snoc (l : List En) (x : En) (u : ByteArray) (s : Int) : getI (l ++ [x]) u s = match l.findIdx? (getP u s) with | some i => (i : Int) | none => if getP u s x then (l.length : Int) else -1 := by
  unfold getI
  rw [List.findIdx?_append]
  cases l.findIdx? (getP u s) with
  | some i => rfl
  | none =>
    rw [List.findIdx?_cons]
    cases getP u s x <;> simp
theorem str_no {a b : ByteArray} (h : a ≠ b) : (a.toList == b.toList) = false := by
  rw [beq_cmpB]
  exact decide_eq_false (fun q => h ((cmpB_zero _ _).1 q))
attribute [local go_sem] Oper.semAt_some
set_option maxHeartbeats 3200000 in
theorem get_any (v : Value) (l : List En) (u : ByteArray) (s : Int) (w : World) (h : IsEs w v l) (hl : l.length ≤ 100000) (hs : l.Pairwise fun x y => cmpK x.key y.key < 0) (hu : ∀ x ∈ l, x.key.u.size ≤ maxLen) :
    Calls Try.prog 43 #[v, .string u, .int .i64 s] w fun e w' => e = .returned (.int .i64 (getI l u s)) ∧ Below w.heap.size w w' := by
  obtain ⟨a, c, rfl, -, -, -⟩ := id h
  obtain ⟨-, hc, hm, hx⟩ := h.at
  obtain ⟨n, hn⟩ : ∃ n, n = l.length := ⟨_, rfl⟩
  rw [← hn] at hc hx hl ⊢
  have Hx := Lib.hid hx
  have Hn := Lib.hid hn
  have Hs := Lib.hid hs
  have Hu := Lib.hid hu
  clear h hx hn hs hu
  go_enter Try.func43, Try.ntmps43
  go_wp2_with fail
  go_loopw [7, 8] (fun bv iv wr => ∃ i : Nat, i ≤ n ∧ iv = .int .i64 i ∧ bv = .int .i64 (getI (l.take i) u s) ∧ Below w.heap.size w wr) (fun _ iv _ => n - (intOf iv).toNat)
  case atStart => exact ⟨0, Nat.zero_le _, rfl, rfl, Below.refl _ _⟩
  case round =>
    obtain ⟨wq, rfl⟩ : ∃ wq : World, wq = wr := ⟨_, rfl⟩
    obtain ⟨i, hi, rfl, rfl, hb⟩ := hrel
    have Hb := Lib.hid hb
    clear hb
    by_cases hin : i < n
    · obtain ⟨b, off, rfl, hcell⟩ := Hx.out (by omega)
      obtain ⟨x, hxi⟩ : ∃ x, l[i]? = some x := ⟨_, List.getElem?_eq_getElem (by rw [← Hn.out]; exact hin)⟩
      have hcw := fun j (y : En) (hy : l[j]? = some y) => IsEs.row (w := wq) (fun i x hi j y hj => (Hb.out.cell (block_lt_of_cell (hcell i x hi j y hj))).trans (hcell i x hi j y hj)) hy
      obtain ⟨d0, d1, d2, d3⟩ := hcw i x hxi
      have htk : l.take (i + 1) = l.take i ++ [x] := by rw [List.take_add_one, hxi]; rfl
      have hstep := get_snoc (l.take i) x u s
      rw [← htk, List.length_take, Nat.min_eq_left (by rw [← Hn.out]; omega)] at hstep
      have Hbd := Lib.hid Hb.out.drew
      have hin2 : (i : Int) < (n : Int) := by omega
      have hxu := Hu.out x (List.mem_of_getElem? hxi)
      have Hcw := Lib.hid hcw
      have Hxi := Lib.hid hxi
      clear hcell htk hcw hxi
      obtain ⟨⟨xu, xs, xk⟩, val⟩ := x
      dsimp only at d0 d1 d2 d3 hxu
      have Hxu := Lib.hid hxu
      clear hxu
      have hold : getP u s ⟨⟨xu, xs, xk⟩, val⟩ = false → getI (l.take (i + 1)) u s = getI (l.take i) u s := fun q => by
        rw [hstep, q]; unfold getI; cases (l.take i).findIdx? (getP u s) <;> rfl
      by_cases hue : xu = u
      · subst hue
        by_cases hse : xs ≤ s
        · have dse : decide (xs ≤ s) = true := decide_eq_true hse
          have hp : getP xu s ⟨⟨xu, xs, xk⟩, val⟩ = true := by unfold getP; rw [decide_eq_true rfl, decide_eq_true hse]; rfl
          rw [hp] at hstep
          cases hf : (l.take i).findIdx? (getP xu s) with
          | none =>
            have hB : getI (l.take i) xu s = -1 := by unfold getI; rw [hf]
            rw [hf] at hstep
            have Hst : Hid (getI (l.take (i + 1)) xu s = (i : Int)) := Lib.hid (by rw [hstep]; rfl)
            rw [hB]
            clear hf hB hstep hold hp
            go_upto_region 5 with fail
            refine wp_region_held_drew (S := fun V' => Hid (Below wq.heap.size wq V')) (by kernel_rfl) (Lib.hid ((Below.refl _ _).drew)) (fun hS0 => ?_)
            refine wpAnyH_take (i := 0) (oi := { dst := some 15, op := Op.move (Operand.tmp 0), type := 62, pos := "ref.go:35", after := #[], guard := none }) (v := ?_) rfl (by kernel_rfl) (by kernel_rfl) (by kernel_rfl) (fun _ _ _ h => h) (Or.inl ⟨by rfl, ?hy73⟩) hS0 ?_
            case hy73 => (intro V hSw; (try dsimp only at hSw); clear hSw; go_simp; try with_reducible rfl)
            try simp only [Act.put, List.setIfInBounds_toArray, List.set_cons_zero, List.set_cons_succ]
            refine wpAnyH_take (i := 1) (oi := { dst := some 16, op := Op.move (Operand.tmp 8), type := 3, pos := "ref.go:35", after := #[], guard := none }) (v := ?_) rfl (by kernel_rfl) (by kernel_rfl) (by kernel_rfl) (fun _ _ _ h => h) (Or.inl ⟨by rfl, ?hy74⟩) hS0 ?_
            case hy74 => (intro V hSw; (try dsimp only at hSw); clear hSw; go_simp; try with_reducible rfl)
            try simp only [Act.put, List.setIfInBounds_toArray, List.set_cons_zero, List.set_cons_succ]
            refine wpAnyH_take (i := 2) (oi := { dst := some 17, op := Op.indexAddr 62 (Operand.tmp 15) (Operand.tmp 16), type := 0, pos := "ref.go:35", after := #[{ on := 0, ground := Ground.data }, { on := 1, ground := Ground.data }], guard := none }) (v := ?_) rfl (by kernel_rfl) (by kernel_rfl) (by kernel_rfl) (fun _ _ _ h => h) (Or.inl ⟨by rfl, ?hy75⟩) hS0 ?_
            case hy75 => (intro V hSw; (try dsimp only at hSw); clear hSw; go_simp; try with_reducible rfl)
            try simp only [Act.put, List.setIfInBounds_toArray, List.set_cons_zero, List.set_cons_succ]
            refine wpAnyH_take (i := 3) (oi := { dst := some 18, op := Op.fieldAddr 67 (Operand.tmp 17) 0, type := 0, pos := "ref.go:35", after := #[{ on := 2, ground := Ground.data }], guard := none }) (v := ?_) rfl (by kernel_rfl) (by kernel_rfl) (by kernel_rfl) (fun _ _ _ h => h) (Or.inl ⟨by rfl, ?hy76⟩) hS0 ?_
            case hy76 => (intro V hSw; (try dsimp only at hSw); clear hSw; go_simp; try with_reducible rfl)
            try simp only [Act.put, List.setIfInBounds_toArray, List.set_cons_zero, List.set_cons_succ]
            refine wpAnyH_take (i := 4) (oi := { dst := some 19, op := Op.fieldAddr 65 (Operand.tmp 18) 0, type := 0, pos := "ref.go:35", after := #[{ on := 3, ground := Ground.data }], guard := none }) (v := ?_) rfl (by kernel_rfl) (by kernel_rfl) (by kernel_rfl) (fun _ _ _ h => h) (Or.inl ⟨by rfl, ?hy77⟩) hS0 ?_
            case hy77 => (intro V hSw; (try dsimp only at hSw); clear hSw; go_simp; try with_reducible rfl)
            try simp only [Act.put, List.setIfInBounds_toArray, List.set_cons_zero, List.set_cons_succ]
            refine wpAnyH_take (i := 5) (oi := { dst := some 20, op := Op.load 9 (Operand.tmp 19), type := 9, pos := "ref.go:35", after := #[{ on := 4, ground := Ground.data }], guard := none }) (v := ?_) rfl (by kernel_rfl) (by kernel_rfl) (by kernel_rfl) (fun _ _ _ h => h) (Or.inl ⟨by rfl, ?hy78⟩) hS0 ?_
            case hy78 => (intro V hSw; (try dsimp only at hSw); have q0 := grow_cell hSw.out (block_lt_of_cell d0) d0; have q1 := grow_cell hSw.out (block_lt_of_cell d1) d1; have q2 := grow_cell hSw.out (block_lt_of_cell d2) d2; clear hSw; go_simp; try with_reducible rfl)
            try simp only [Act.put, List.setIfInBounds_toArray, List.set_cons_zero, List.set_cons_succ]
            refine wpAnyH_take (i := 6) (oi := { dst := some 21, op := Op.move (Operand.tmp 1), type := 9, pos := "ref.go:35", after := #[], guard := none }) (v := ?_) rfl (by kernel_rfl) (by kernel_rfl) (by kernel_rfl) (fun _ _ _ h => h) (Or.inl ⟨by rfl, ?hy79⟩) hS0 ?_
            case hy79 => (intro V hSw; (try dsimp only at hSw); clear hSw; go_simp; try with_reducible rfl)
            try simp only [Act.put, List.setIfInBounds_toArray, List.set_cons_zero, List.set_cons_succ]
            refine wpAnyH_take (i := 7) (oi := { dst := some 22, op := Op.binOp BinOp.eql 9 (Operand.tmp 20) (Operand.tmp 21) 9, type := 4, pos := "ref.go:35", after := #[{ on := 5, ground := Ground.data }, { on := 6, ground := Ground.data }], guard := none }) (v := ?_) rfl (by kernel_rfl) (by kernel_rfl) (by kernel_rfl) (fun _ _ _ h => h) (Or.inl ⟨by rfl, ?hy80⟩) hS0 ?_
            case hy80 => (intro V hSw; (try dsimp only at hSw); clear hSw; go_simp; try with_reducible rfl)
            try simp only [Act.put, List.setIfInBounds_toArray, List.set_cons_zero, List.set_cons_succ]
            refine wpAnyH_take (i := 8) (oi := { dst := some 23, op := Op.move (Operand.tmp 22), type := 4, pos := "ref.go:35", after := #[{ on := 7, ground := Ground.data }], guard := none }) (v := ?_) rfl (by kernel_rfl) (by kernel_rfl) (by kernel_rfl) (fun _ _ _ h => h) (Or.inl ⟨by rfl, ?hy81⟩) hS0 ?_
            case hy81 => (intro V hSw; (try dsimp only at hSw); clear hSw; go_simp; try with_reducible rfl)
            try simp only [Act.put, List.setIfInBounds_toArray, List.set_cons_zero, List.set_cons_succ]
            refine wpAnyH_take (i := 9) (oi := { dst := some 24, op := Op.move (Operand.tmp 0), type := 62, pos := "ref.go:35", after := #[{ on := 8, ground := Ground.guard }], guard := some (8, true) }) (v := ?_) rfl (by kernel_rfl) (by kernel_rfl) (by kernel_rfl) (fun _ _ _ h => h) (Or.inl ⟨by rfl, ?hy82⟩) hS0 ?_
            case hy82 => (intro V hSw; (try dsimp only at hSw); clear hSw; go_simp; try with_reducible rfl)
            try simp only [Act.put, List.setIfInBounds_toArray, List.set_cons_zero, List.set_cons_succ]
            refine wpAnyH_take (i := 10) (oi := { dst := some 25, op := Op.move (Operand.tmp 8), type := 3, pos := "ref.go:35", after := #[{ on := 8, ground := Ground.guard }], guard := some (8, true) }) (v := ?_) rfl (by kernel_rfl) (by kernel_rfl) (by kernel_rfl) (fun _ _ _ h => h) (Or.inl ⟨by rfl, ?hy83⟩) hS0 ?_
            case hy83 => (intro V hSw; (try dsimp only at hSw); clear hSw; go_simp; try with_reducible rfl)
            try simp only [Act.put, List.setIfInBounds_toArray, List.set_cons_zero, List.set_cons_succ]
            refine wpAnyH_take (i := 11) (oi := { dst := some 26, op := Op.indexAddr 62 (Operand.tmp 24) (Operand.tmp 25), type := 0, pos := "ref.go:35", after := #[{ on := 9, ground := Ground.data }, { on := 10, ground := Ground.data }, { on := 8, ground := Ground.guard }], guard := some (8, true) }) (v := ?_) rfl (by kernel_rfl) (by kernel_rfl) (by kernel_rfl) (fun _ _ _ h => h) (Or.inl ⟨by rfl, ?hy84⟩) hS0 ?_
            case hy84 => (intro V hSw; (try dsimp only at hSw); clear hSw; go_simp; try with_reducible rfl)
            try simp only [Act.put, List.setIfInBounds_toArray, List.set_cons_zero, List.set_cons_succ]
            refine wpAnyH_take (i := 12) (oi := { dst := some 27, op := Op.fieldAddr 67 (Operand.tmp 26) 0, type := 0, pos := "ref.go:35", after := #[{ on := 11, ground := Ground.data }, { on := 8, ground := Ground.guard }], guard := some (8, true) }) (v := ?_) rfl (by kernel_rfl) (by kernel_rfl) (by kernel_rfl) (fun _ _ _ h => h) (Or.inl ⟨by rfl, ?hy85⟩) hS0 ?_
            case hy85 => (intro V hSw; (try dsimp only at hSw); clear hSw; go_simp; try with_reducible rfl)
            try simp only [Act.put, List.setIfInBounds_toArray, List.set_cons_zero, List.set_cons_succ]
            refine wpAnyH_take (i := 13) (oi := { dst := some 28, op := Op.fieldAddr 65 (Operand.tmp 27) 1, type := 0, pos := "ref.go:35", after := #[{ on := 12, ground := Ground.data }, { on := 8, ground := Ground.guard }], guard := some (8, true) }) (v := ?_) rfl (by kernel_rfl) (by kernel_rfl) (by kernel_rfl) (fun _ _ _ h => h) (Or.inl ⟨by rfl, ?hy86⟩) hS0 ?_
            case hy86 => (intro V hSw; (try dsimp only at hSw); clear hSw; go_simp; try with_reducible rfl)
            try simp only [Act.put, List.setIfInBounds_toArray, List.set_cons_zero, List.set_cons_succ]
            refine wpAnyH_take (i := 14) (oi := { dst := some 29, op := Op.load 3 (Operand.tmp 28), type := 3, pos := "ref.go:35", after := #[{ on := 13, ground := Ground.data }, { on := 8, ground := Ground.guard }], guard := some (8, true) }) (v := ?_) rfl (by kernel_rfl) (by kernel_rfl) (by kernel_rfl) (fun _ _ _ h => h) (Or.inl ⟨by rfl, ?hy87⟩) hS0 ?_
            case hy87 => (intro V hSw; (try dsimp only at hSw); have q0 := grow_cell hSw.out (block_lt_of_cell d0) d0; have q1 := grow_cell hSw.out (block_lt_of_cell d1) d1; have q2 := grow_cell hSw.out (block_lt_of_cell d2) d2; clear hSw; go_simp; try with_reducible rfl)
            try simp only [Act.put, List.setIfInBounds_toArray, List.set_cons_zero, List.set_cons_succ]
            refine wpAnyH_take (i := 15) (oi := { dst := some 30, op := Op.move (Operand.tmp 2), type := 3, pos := "ref.go:35", after := #[{ on := 8, ground := Ground.guard }], guard := some (8, true) }) (v := ?_) rfl (by kernel_rfl) (by kernel_rfl) (by kernel_rfl) (fun _ _ _ h => h) (Or.inl ⟨by rfl, ?hy88⟩) hS0 ?_
            case hy88 => (intro V hSw; (try dsimp only at hSw); clear hSw; go_simp; try with_reducible rfl)
            try simp only [Act.put, List.setIfInBounds_toArray, List.set_cons_zero, List.set_cons_succ]
            refine wpAnyH_take (i := 16) (oi := { dst := some 31, op := Op.binOp BinOp.leq 3 (Operand.tmp 29) (Operand.tmp 30) 3, type := 4, pos := "ref.go:35", after := #[{ on := 14, ground := Ground.data }, { on := 15, ground := Ground.data }, { on := 8, ground := Ground.guard }], guard := some (8, true) }) (v := ?_) rfl (by kernel_rfl) (by kernel_rfl) (by kernel_rfl) (fun _ _ _ h => h) (Or.inl ⟨by rfl, ?hy89⟩) hS0 ?_
            case hy89 => (intro V hSw; (try dsimp only at hSw); clear hSw; go_simp; try with_reducible rfl)
            try simp only [Act.put, List.setIfInBounds_toArray, List.set_cons_zero, List.set_cons_succ]
            refine wpAnyH_take (i := 17) (oi := { dst := some 32, op := Op.pick (Operand.tmp 23) (Operand.tmp 31) (Operand.const (Value.bool false)), type := 4, pos := "ref.go:35", after := #[{ on := 8, ground := Ground.data }, { on := 16, ground := Ground.data }], guard := none }) (v := ?_) rfl (by kernel_rfl) (by kernel_rfl) (by kernel_rfl) (fun _ _ _ h => h) (Or.inl ⟨by rfl, ?hy90⟩) hS0 ?_
            case hy90 => (intro V hSw; (try dsimp only at hSw); clear hSw; go_simp; try with_reducible rfl)
            try simp only [Act.put, List.setIfInBounds_toArray, List.set_cons_zero, List.set_cons_succ]
            refine wpAnyH_take (i := 18) (oi := { dst := some 33, op := Op.move (Operand.tmp 32), type := 4, pos := "ref.go:35", after := #[{ on := 17, ground := Ground.data }, { on := 8, ground := Ground.chain }], guard := none }) (v := ?_) rfl (by kernel_rfl) (by kernel_rfl) (by kernel_rfl) (fun _ _ _ h => h) (Or.inl ⟨by rfl, ?hy91⟩) hS0 ?_
            case hy91 => (intro V hSw; (try dsimp only at hSw); clear hSw; go_simp; try with_reducible rfl)
            try simp only [Act.put, List.setIfInBounds_toArray, List.set_cons_zero, List.set_cons_succ]
            refine wpAnyH_take (i := 19) (oi := { dst := some 34, op := Op.move (Operand.tmp 7), type := 3, pos := "ref.go:35", after := #[{ on := 18, ground := Ground.guard }], guard := some (18, true) }) (v := ?_) rfl (by kernel_rfl) (by kernel_rfl) (by kernel_rfl) (fun _ _ _ h => h) (Or.inl ⟨by rfl, ?hy92⟩) hS0 ?_
            case hy92 => (intro V hSw; (try dsimp only at hSw); clear hSw; go_simp; try with_reducible rfl)
            try simp only [Act.put, List.setIfInBounds_toArray, List.set_cons_zero, List.set_cons_succ]
            refine wpAnyH_take (i := 20) (oi := { dst := some 35, op := Op.binOp BinOp.lss 3 (Operand.tmp 34) (Operand.const (Value.int IntKind.i64 0)) 3, type := 4, pos := "ref.go:35", after := #[{ on := 19, ground := Ground.data }, { on := 18, ground := Ground.guard }], guard := some (18, true) }) (v := ?_) rfl (by kernel_rfl) (by kernel_rfl) (by kernel_rfl) (fun _ _ _ h => h) (Or.inl ⟨by rfl, ?hy93⟩) hS0 ?_
            case hy93 => (intro V hSw; (try dsimp only at hSw); clear hSw; go_simp; try with_reducible rfl)
            try simp only [Act.put, List.setIfInBounds_toArray, List.set_cons_zero, List.set_cons_succ]
            refine wpAnyH_take (i := 21) (oi := { dst := some 36, op := Op.move (Operand.tmp 35), type := 4, pos := "ref.go:35", after := #[{ on := 20, ground := Ground.data }, { on := 18, ground := Ground.chain }, { on := 18, ground := Ground.guard }], guard := some (18, true) }) (v := ?_) rfl (by kernel_rfl) (by kernel_rfl) (by kernel_rfl) (fun _ _ _ h => h) (Or.inl ⟨by rfl, ?hy94⟩) hS0 ?_
            case hy94 => (intro V hSw; (try dsimp only at hSw); clear hSw; go_simp; try with_reducible rfl)
            try simp only [Act.put, List.setIfInBounds_toArray, List.set_cons_zero, List.set_cons_succ]
            refine wpAnyH_take (i := 22) (oi := { dst := some 37, op := Op.move (Operand.tmp 0), type := 62, pos := "ref.go:35", after := #[{ on := 21, ground := Ground.guard }], guard := some (21, false) }) (v := undef) rfl (by kernel_rfl) (by kernel_rfl) (by kernel_rfl) (fun _ _ _ h => h) (Or.inr ⟨by rfl, rfl⟩) hS0 ?_
            try simp only [Act.put, List.setIfInBounds_toArray, List.set_cons_zero, List.set_cons_succ]
            refine wpAnyH_take (i := 23) (oi := { dst := some 38, op := Op.move (Operand.tmp 8), type := 3, pos := "ref.go:35", after := #[{ on := 21, ground := Ground.guard }], guard := some (21, false) }) (v := undef) rfl (by kernel_rfl) (by kernel_rfl) (by kernel_rfl) (fun _ _ _ h => h) (Or.inr ⟨by rfl, rfl⟩) hS0 ?_
            try simp only [Act.put, List.setIfInBounds_toArray, List.set_cons_zero, List.set_cons_succ]
            refine wpAnyH_take (i := 24) (oi := { dst := some 39, op := Op.indexAddr 62 (Operand.tmp 37) (Operand.tmp 38), type := 0, pos := "ref.go:35", after := #[{ on := 22, ground := Ground.data }, { on := 23, ground := Ground.data }, { on := 21, ground := Ground.guard }], guard := some (21, false) }) (v := undef) rfl (by kernel_rfl) (by kernel_rfl) (by kernel_rfl) (fun _ _ _ h => h) (Or.inr ⟨by rfl, rfl⟩) hS0 ?_
            try simp only [Act.put, List.setIfInBounds_toArray, List.set_cons_zero, List.set_cons_succ]
            refine wpAnyH_take (i := 25) (oi := { dst := some 40, op := Op.fieldAddr 67 (Operand.tmp 39) 0, type := 0, pos := "ref.go:35", after := #[{ on := 24, ground := Ground.data }, { on := 21, ground := Ground.guard }], guard := some (21, false) }) (v := undef) rfl (by kernel_rfl) (by kernel_rfl) (by kernel_rfl) (fun _ _ _ h => h) (Or.inr ⟨by rfl, rfl⟩) hS0 ?_
            try simp only [Act.put, List.setIfInBounds_toArray, List.set_cons_zero, List.set_cons_succ]
            refine wpAnyH_take (i := 26) (oi := { dst := some 41, op := Op.load 65 (Operand.tmp 40), type := 65, pos := "ref.go:35", after := #[{ on := 25, ground := Ground.data }, { on := 21, ground := Ground.guard }], guard := some (21, false) }) (v := undef) rfl (by kernel_rfl) (by kernel_rfl) (by kernel_rfl) (fun _ _ _ h => h) (Or.inr ⟨by rfl, rfl⟩) hS0 ?_
            try simp only [Act.put, List.setIfInBounds_toArray, List.set_cons_zero, List.set_cons_succ]
            refine wpAnyH_take (i := 27) (oi := { dst := some 42, op := Op.move (Operand.tmp 0), type := 62, pos := "ref.go:35", after := #[{ on := 21, ground := Ground.guard }], guard := some (21, false) }) (v := undef) rfl (by kernel_rfl) (by kernel_rfl) (by kernel_rfl) (fun _ _ _ h => h) (Or.inr ⟨by rfl, rfl⟩) hS0 ?_
            try simp only [Act.put, List.setIfInBounds_toArray, List.set_cons_zero, List.set_cons_succ]
            refine wpAnyH_take (i := 28) (oi := { dst := some 43, op := Op.move (Operand.tmp 7), type := 3, pos := "ref.go:35", after := #[{ on := 21, ground := Ground.guard }], guard := some (21, false) }) (v := undef) rfl (by kernel_rfl) (by kernel_rfl) (by kernel_rfl) (fun _ _ _ h => h) (Or.inr ⟨by rfl, rfl⟩) hS0 ?_
            try simp only [Act.put, List.setIfInBounds_toArray, List.set_cons_zero, List.set_cons_succ]
            refine wpAnyH_take (i := 29) (oi := { dst := some 44, op := Op.indexAddr 62 (Operand.tmp 42) (Operand.tmp 43), type := 0, pos := "ref.go:35", after := #[{ on := 27, ground := Ground.data }, { on := 28, ground := Ground.data }, { on := 21, ground := Ground.guard }], guard := some (21, false) }) (v := undef) rfl (by kernel_rfl) (by kernel_rfl) (by kernel_rfl) (fun _ _ _ h => h) (Or.inr ⟨by rfl, rfl⟩) hS0 ?_
            try simp only [Act.put, List.setIfInBounds_toArray, List.set_cons_zero, List.set_cons_succ]
            refine wpAnyH_take (i := 30) (oi := { dst := some 45, op := Op.fieldAddr 67 (Operand.tmp 44) 0, type := 0, pos := "ref.go:35", after := #[{ on := 29, ground := Ground.data }, { on := 21, ground := Ground.guard }], guard := some (21, false) }) (v := undef) rfl (by kernel_rfl) (by kernel_rfl) (by kernel_rfl) (fun _ _ _ h => h) (Or.inr ⟨by rfl, rfl⟩) hS0 ?_
            try simp only [Act.put, List.setIfInBounds_toArray, List.set_cons_zero, List.set_cons_succ]
            refine wpAnyH_take (i := 31) (oi := { dst := some 46, op := Op.load 65 (Operand.tmp 45), type := 65, pos := "ref.go:35", after := #[{ on := 30, ground := Ground.data }, { on := 21, ground := Ground.guard }], guard := some (21, false) }) (v := undef) rfl (by kernel_rfl) (by kernel_rfl) (by kernel_rfl) (fun _ _ _ h => h) (Or.inr ⟨by rfl, rfl⟩) hS0 ?_
            try simp only [Act.put, List.setIfInBounds_toArray, List.set_cons_zero, List.set_cons_succ]
            refine wpAnyH_take (i := 32) (oi := { dst := some 47, op := Op.call { callee := Callee.value (Operand.func 70), args := #[Operand.tmp 41, Operand.tmp 46], argTypes := #[65, 65] }, type := 3, pos := "ref.go:35", after := #[{ on := 26, ground := Ground.data }, { on := 31, ground := Ground.data }, { on := 21, ground := Ground.chain }, { on := 21, ground := Ground.guard }], guard := some (21, false) }) (v := undef) rfl (by kernel_rfl) (by kernel_rfl) (by kernel_rfl) (fun _ _ _ h => h) (Or.inr ⟨by rfl, rfl⟩) hS0 ?_
            try simp only [Act.put, List.setIfInBounds_toArray, List.set_cons_zero, List.set_cons_succ]
            refine wpAnyH_take (i := 33) (oi := { dst := some 48, op := Op.binOp BinOp.lss 3 (Operand.tmp 47) (Operand.const (Value.int IntKind.i64 0)) 3, type := 4, pos := "ref.go:35", after := #[{ on := 32, ground := Ground.data }, { on := 21, ground := Ground.guard }], guard := some (21, false) }) (v := undef) rfl (by kernel_rfl) (by kernel_rfl) (by kernel_rfl) (fun _ _ _ h => h) (Or.inr ⟨by rfl, rfl⟩) hS0 ?_
            try simp only [Act.put, List.setIfInBounds_toArray, List.set_cons_zero, List.set_cons_succ]
            refine wpAnyH_take (i := 34) (oi := { dst := some 49, op := Op.pick (Operand.tmp 36) (Operand.const (Value.bool true)) (Operand.tmp 48), type := 4, pos := "ref.go:35", after := #[{ on := 21, ground := Ground.data }, { on := 33, ground := Ground.data }, { on := 18, ground := Ground.guard }], guard := some (18, true) }) (v := ?_) rfl (by kernel_rfl) (by kernel_rfl) (by kernel_rfl) (fun _ _ _ h => h) (Or.inl ⟨by rfl, ?hy107⟩) hS0 ?_
            case hy107 => (intro V hSw; (try dsimp only at hSw); clear hSw; go_simp; try with_reducible rfl)
            try simp only [Act.put, List.setIfInBounds_toArray, List.set_cons_zero, List.set_cons_succ]
            refine wpAnyH_take (i := 35) (oi := { dst := some 50, op := Op.pick (Operand.tmp 33) (Operand.tmp 49) (Operand.const (Value.bool false)), type := 4, pos := "ref.go:35", after := #[{ on := 18, ground := Ground.data }, { on := 34, ground := Ground.data }], guard := none }) (v := ?_) rfl (by kernel_rfl) (by kernel_rfl) (by kernel_rfl) (fun _ _ _ h => h) (Or.inl ⟨by rfl, ?hy108⟩) hS0 ?_
            case hy108 => (intro V hSw; (try dsimp only at hSw); clear hSw; go_simp; try with_reducible rfl)
            try simp only [Act.put, List.setIfInBounds_toArray, List.set_cons_zero, List.set_cons_succ]
            refine wpAnyH_done (by kernel_rfl) ?_ _
            have HbE := Lib.hid (Hb.out.trans (hS0.out.mono Hb.out.size))
            clear d0 d1 d2 d3 hS0
            go_wp2_with fail
            go_roundw
            case rel => exact ⟨i + 1, by omega, by go_num, by rw [Hst.out], HbE.out⟩
            case measure => simp [intOf]; omega
          | some m =>
            have hB : getI (l.take i) xu s = (m : Int) := by unfold getI; rw [hf]
            rw [hf] at hstep
            have Hst : Hid (getI (l.take (i + 1)) xu s = (m : Int)) := Lib.hid hstep
            obtain ⟨hmi, -, -⟩ := List.findIdx?_eq_some_iff_getElem.1 hf
            rw [List.length_take, Nat.min_eq_left (by rw [← Hn.out]; omega)] at hmi
            obtain ⟨y, hy⟩ : ∃ y, l[m]? = some y := ⟨_, List.getElem?_eq_getElem (by rw [← Hn.out]; omega)⟩
            obtain ⟨e0, e1, e2, e3⟩ := Hcw.out m y hy
            have hyu := Hu.out y (List.mem_of_getElem? hy)
            have hlt : cmpK y.key ⟨xu, xs, xk⟩ < 0 := by
              have h1 := List.getElem?_eq_some_iff.1 hy
              have h2 := List.getElem?_eq_some_iff.1 Hxi.out
              have := List.pairwise_iff_getElem.1 Hs.out m i h1.1 h2.1 hmi
              rw [h1.2, h2.2] at this; exact this
            have hgt : ¬ cmpK ⟨xu, xs, xk⟩ y.key < 0 := by have := cmpK_swap y.key ⟨xu, xs, xk⟩; omega
            obtain ⟨⟨yu, ys, yk⟩, val2⟩ := y
            dsimp only at e0 e1 e2 e3 hyu hgt
            have HC := Lib.hid (fun W => cmp3_any ⟨xu, xs, xk⟩ ⟨yu, ys, yk⟩ Hxu.out hyu W)
            generalize cmpK ⟨xu, xs, xk⟩ ⟨yu, ys, yk⟩ = D at *
            have dgt : decide (D < 0) = false := decide_eq_false hgt
            have hm0 : ¬ (m : Int) < 0 := by omega
            have dm0 : decide ((m : Int) < 0) = false := decide_eq_false hm0
            have hmn : (m : Int) < (n : Int) := by omega
            have hmp : (0 : Int) ≤ (m : Int) := by omega
            rw [hB]
            clear hf hB hstep hold hp hlt hyu hy
            go_upto_region 5 with fail
            refine wp_region_held_drew (S := fun V' => Hid (Below wq.heap.size wq V')) (by kernel_rfl) (Lib.hid ((Below.refl _ _).drew)) (fun hS0 => ?_)
            refine wpAnyH_take (i := 0) (oi := { dst := some 15, op := Op.move (Operand.tmp 0), type := 62, pos := "ref.go:35", after := #[], guard := none }) (v := ?_) rfl (by kernel_rfl) (by kernel_rfl) (by kernel_rfl) (fun _ _ _ h => h) (Or.inl ⟨by rfl, ?hy109⟩) hS0 ?_
            case hy109 => (intro V hSw; (try dsimp only at hSw); clear hSw; go_simp; try with_reducible rfl)
            try simp only [Act.put, List.setIfInBounds_toArray, List.set_cons_zero, List.set_cons_succ]
            refine wpAnyH_take (i := 1) (oi := { dst := some 16, op := Op.move (Operand.tmp 8), type := 3, pos := "ref.go:35", after := #[], guard := none }) (v := ?_) rfl (by kernel_rfl) (by kernel_rfl) (by kernel_rfl) (fun _ _ _ h => h) (Or.inl ⟨by rfl, ?hy110⟩) hS0 ?_
            case hy110 => (intro V hSw; (try dsimp only at hSw); clear hSw; go_simp; try with_reducible rfl)
            try simp only [Act.put, List.setIfInBounds_toArray, List.set_cons_zero, List.set_cons_succ]
            refine wpAnyH_take (i := 2) (oi := { dst := some 17, op := Op.indexAddr 62 (Operand.tmp 15) (Operand.tmp 16), type := 0, pos := "ref.go:35", after := #[{ on := 0, ground := Ground.data }, { on := 1, ground := Ground.data }], guard := none }) (v := ?_) rfl (by kernel_rfl) (by kernel_rfl) (by kernel_rfl) (fun _ _ _ h => h) (Or.inl ⟨by rfl, ?hy111⟩) hS0 ?_
            case hy111 => (intro V hSw; (try dsimp only at hSw); clear hSw; go_simp; try with_reducible rfl)
            try simp only [Act.put, List.setIfInBounds_toArray, List.set_cons_zero, List.set_cons_succ]
            refine wpAnyH_take (i := 3) (oi := { dst := some 18, op := Op.fieldAddr 67 (Operand.tmp 17) 0, type := 0, pos := "ref.go:35", after := #[{ on := 2, ground := Ground.data }], guard := none }) (v := ?_) rfl (by kernel_rfl) (by kernel_rfl) (by kernel_rfl) (fun _ _ _ h => h) (Or.inl ⟨by rfl, ?hy112⟩) hS0 ?_
            case hy112 => (intro V hSw; (try dsimp only at hSw); clear hSw; go_simp; try with_reducible rfl)
            try simp only [Act.put, List.setIfInBounds_toArray, List.set_cons_zero, List.set_cons_succ]
            refine wpAnyH_take (i := 4) (oi := { dst := some 19, op := Op.fieldAddr 65 (Operand.tmp 18) 0, type := 0, pos := "ref.go:35", after := #[{ on := 3, ground := Ground.data }], guard := none }) (v := ?_) rfl (by kernel_rfl) (by kernel_rfl) (by kernel_rfl) (fun _ _ _ h => h) (Or.inl ⟨by rfl, ?hy113⟩) hS0 ?_
            case hy113 => (intro V hSw; (try dsimp only at hSw); clear hSw; go_simp; try with_reducible rfl)
            try simp only [Act.put, List.setIfInBounds_toArray, List.set_cons_zero, List.set_cons_succ]
            refine wpAnyH_take (i := 5) (oi := { dst := some 20, op := Op.load 9 (Operand.tmp 19), type := 9, pos := "ref.go:35", after := #[{ on := 4, ground := Ground.data }], guard := none }) (v := ?_) rfl (by kernel_rfl) (by kernel_rfl) (by kernel_rfl) (fun _ _ _ h => h) (Or.inl ⟨by rfl, ?hy114⟩) hS0 ?_
            case hy114 => (intro V hSw; (try dsimp only at hSw); have q0 := grow_cell hSw.out (block_lt_of_cell d0) d0; have q1 := grow_cell hSw.out (block_lt_of_cell d1) d1; have q2 := grow_cell hSw.out (block_lt_of_cell d2) d2; have q3 := grow_cell hSw.out (block_lt_of_cell e0) e0; have q4 := grow_cell hSw.out (block_lt_of_cell e1) e1; have q5 := grow_cell hSw.out (block_lt_of_cell e2) e2; clear hSw; go_simp; try with_reducible rfl)
            try simp only [Act.put, List.setIfInBounds_toArray, List.set_cons_zero, List.set_cons_succ]
            refine wpAnyH_take (i := 6) (oi := { dst := some 21, op := Op.move (Operand.tmp 1), type := 9, pos := "ref.go:35", after := #[], guard := none }) (v := ?_) rfl (by kernel_rfl) (by kernel_rfl) (by kernel_rfl) (fun _ _ _ h => h) (Or.inl ⟨by rfl, ?hy115⟩) hS0 ?_
            case hy115 => (intro V hSw; (try dsimp only at hSw); clear hSw; go_simp; try with_reducible rfl)
            try simp only [Act.put, List.setIfInBounds_toArray, List.set_cons_zero, List.set_cons_succ]
            refine wpAnyH_take (i := 7) (oi := { dst := some 22, op := Op.binOp BinOp.eql 9 (Operand.tmp 20) (Operand.tmp 21) 9, type := 4, pos := "ref.go:35", after := #[{ on := 5, ground := Ground.data }, { on := 6, ground := Ground.data }], guard := none }) (v := ?_) rfl (by kernel_rfl) (by kernel_rfl) (by kernel_rfl) (fun _ _ _ h => h) (Or.inl ⟨by rfl, ?hy116⟩) hS0 ?_
            case hy116 => (intro V hSw; (try dsimp only at hSw); clear hSw; go_simp; try with_reducible rfl)
            try simp only [Act.put, List.setIfInBounds_toArray, List.set_cons_zero, List.set_cons_succ]
            refine wpAnyH_take (i := 8) (oi := { dst := some 23, op := Op.move (Operand.tmp 22), type := 4, pos := "ref.go:35", after := #[{ on := 7, ground := Ground.data }], guard := none }) (v := ?_) rfl (by kernel_rfl) (by kernel_rfl) (by kernel_rfl) (fun _ _ _ h => h) (Or.inl ⟨by rfl, ?hy117⟩) hS0 ?_
            case hy117 => (intro V hSw; (try dsimp only at hSw); clear hSw; go_simp; try with_reducible rfl)
            try simp only [Act.put, List.setIfInBounds_toArray, List.set_cons_zero, List.set_cons_succ]
            refine wpAnyH_take (i := 9) (oi := { dst := some 24, op := Op.move (Operand.tmp 0), type := 62, pos := "ref.go:35", after := #[{ on := 8, ground := Ground.guard }], guard := some (8, true) }) (v := ?_) rfl (by kernel_rfl) (by kernel_rfl) (by kernel_rfl) (fun _ _ _ h => h) (Or.inl ⟨by rfl, ?hy118⟩) hS0 ?_
            case hy118 => (intro V hSw; (try dsimp only at hSw); clear hSw; go_simp; try with_reducible rfl)
            try simp only [Act.put, List.setIfInBounds_toArray, List.set_cons_zero, List.set_cons_succ]
            refine wpAnyH_take (i := 10) (oi := { dst := some 25, op := Op.move (Operand.tmp 8), type := 3, pos := "ref.go:35", after := #[{ on := 8, ground := Ground.guard }], guard := some (8, true) }) (v := ?_) rfl (by kernel_rfl) (by kernel_rfl) (by kernel_rfl) (fun _ _ _ h => h) (Or.inl ⟨by rfl, ?hy119⟩) hS0 ?_
            case hy119 => (intro V hSw; (try dsimp only at hSw); clear hSw; go_simp; try with_reducible rfl)
            try simp only [Act.put, List.setIfInBounds_toArray, List.set_cons_zero, List.set_cons_succ]
            refine wpAnyH_take (i := 11) (oi := { dst := some 26, op := Op.indexAddr 62 (Operand.tmp 24) (Operand.tmp 25), type := 0, pos := "ref.go:35", after := #[{ on := 9, ground := Ground.data }, { on := 10, ground := Ground.data }, { on := 8, ground := Ground.guard }], guard := some (8, true) }) (v := ?_) rfl (by kernel_rfl) (by kernel_rfl) (by kernel_rfl) (fun _ _ _ h => h) (Or.inl ⟨by rfl, ?hy120⟩) hS0 ?_
            case hy120 => (intro V hSw; (try dsimp only at hSw); clear hSw; go_simp; try with_reducible rfl)
            try simp only [Act.put, List.setIfInBounds_toArray, List.set_cons_zero, List.set_cons_succ]
            refine wpAnyH_take (i := 12) (oi := { dst := some 27, op := Op.fieldAddr 67 (Operand.tmp 26) 0, type := 0, pos := "ref.go:35", after := #[{ on := 11, ground := Ground.data }, { on := 8, ground := Ground.guard }], guard := some (8, true) }) (v := ?_) rfl (by kernel_rfl) (by kernel_rfl) (by kernel_rfl) (fun _ _ _ h => h) (Or.inl ⟨by rfl, ?hy121⟩) hS0 ?_
            case hy121 => (intro V hSw; (try dsimp only at hSw); clear hSw; go_simp; try with_reducible rfl)
            try simp only [Act.put, List.setIfInBounds_toArray, List.set_cons_zero, List.set_cons_succ]
            refine wpAnyH_take (i := 13) (oi := { dst := some 28, op := Op.fieldAddr 65 (Operand.tmp 27) 1, type := 0, pos := "ref.go:35", after := #[{ on := 12, ground := Ground.data }, { on := 8, ground := Ground.guard }], guard := some (8, true) }) (v := ?_) rfl (by kernel_rfl) (by kernel_rfl) (by kernel_rfl) (fun _ _ _ h => h) (Or.inl ⟨by rfl, ?hy122⟩) hS0 ?_
            case hy122 => (intro V hSw; (try dsimp only at hSw); clear hSw; go_simp; try with_reducible rfl)
            try simp only [Act.put, List.setIfInBounds_toArray, List.set_cons_zero, List.set_cons_succ]
            refine wpAnyH_take (i := 14) (oi := { dst := some 29, op := Op.load 3 (Operand.tmp 28), type := 3, pos := "ref.go:35", after := #[{ on := 13, ground := Ground.data }, { on := 8, ground := Ground.guard }], guard := some (8, true) }) (v := ?_) rfl (by kernel_rfl) (by kernel_rfl) (by kernel_rfl) (fun _ _ _ h => h) (Or.inl ⟨by rfl, ?hy123⟩) hS0 ?_
            case hy123 => (intro V hSw; (try dsimp only at hSw); have q0 := grow_cell hSw.out (block_lt_of_cell d0) d0; have q1 := grow_cell hSw.out (block_lt_of_cell d1) d1; have q2 := grow_cell hSw.out (block_lt_of_cell d2) d2; have q3 := grow_cell hSw.out (block_lt_of_cell e0) e0; have q4 := grow_cell hSw.out (block_lt_of_cell e1) e1; have q5 := grow_cell hSw.out (block_lt_of_cell e2) e2; clear hSw; go_simp; try with_reducible rfl)
            try simp only [Act.put, List.setIfInBounds_toArray, List.set_cons_zero, List.set_cons_succ]
            refine wpAnyH_take (i := 15) (oi := { dst := some 30, op := Op.move (Operand.tmp 2), type := 3, pos := "ref.go:35", after := #[{ on := 8, ground := Ground.guard }], guard := some (8, true) }) (v := ?_) rfl (by kernel_rfl) (by kernel_rfl) (by kernel_rfl) (fun _ _ _ h => h) (Or.inl ⟨by rfl, ?hy124⟩) hS0 ?_
            case hy124 => (intro V hSw; (try dsimp only at hSw); clear hSw; go_simp; try with_reducible rfl)
            try simp only [Act.put, List.setIfInBounds_toArray, List.set_cons_zero, List.set_cons_succ]
            refine wpAnyH_take (i := 16) (oi := { dst := some 31, op := Op.binOp BinOp.leq 3 (Operand.tmp 29) (Operand.tmp 30) 3, type := 4, pos := "ref.go:35", after := #[{ on := 14, ground := Ground.data }, { on := 15, ground := Ground.data }, { on := 8, ground := Ground.guard }], guard := some (8, true) }) (v := ?_) rfl (by kernel_rfl) (by kernel_rfl) (by kernel_rfl) (fun _ _ _ h => h) (Or.inl ⟨by rfl, ?hy125⟩) hS0 ?_
            case hy125 => (intro V hSw; (try dsimp only at hSw); clear hSw; go_simp; try with_reducible rfl)
            try simp only [Act.put, List.setIfInBounds_toArray, List.set_cons_zero, List.set_cons_succ]
            refine wpAnyH_take (i := 17) (oi := { dst := some 32, op := Op.pick (Operand.tmp 23) (Operand.tmp 31) (Operand.const (Value.bool false)), type := 4, pos := "ref.go:35", after := #[{ on := 8, ground := Ground.data }, { on := 16, ground := Ground.data }], guard := none }) (v := ?_) rfl (by kernel_rfl) (by kernel_rfl) (by kernel_rfl) (fun _ _ _ h => h) (Or.inl ⟨by rfl, ?hy126⟩) hS0 ?_
            case hy126 => (intro V hSw; (try dsimp only at hSw); clear hSw; go_simp; try with_reducible rfl)
            try simp only [Act.put, List.setIfInBounds_toArray, List.set_cons_zero, List.set_cons_succ]
            refine wpAnyH_take (i := 18) (oi := { dst := some 33, op := Op.move (Operand.tmp 32), type := 4, pos := "ref.go:35", after := #[{ on := 17, ground := Ground.data }, { on := 8, ground := Ground.chain }], guard := none }) (v := ?_) rfl (by kernel_rfl) (by kernel_rfl) (by kernel_rfl) (fun _ _ _ h => h) (Or.inl ⟨by rfl, ?hy127⟩) hS0 ?_
            case hy127 => (intro V hSw; (try dsimp only at hSw); clear hSw; go_simp; try with_reducible rfl)
            try simp only [Act.put, List.setIfInBounds_toArray, List.set_cons_zero, List.set_cons_succ]
            refine wpAnyH_take (i := 19) (oi := { dst := some 34, op := Op.move (Operand.tmp 7), type := 3, pos := "ref.go:35", after := #[{ on := 18, ground := Ground.guard }], guard := some (18, true) }) (v := ?_) rfl (by kernel_rfl) (by kernel_rfl) (by kernel_rfl) (fun _ _ _ h => h) (Or.inl ⟨by rfl, ?hy128⟩) hS0 ?_
            case hy128 => (intro V hSw; (try dsimp only at hSw); clear hSw; go_simp; try with_reducible rfl)
            try simp only [Act.put, List.setIfInBounds_toArray, List.set_cons_zero, List.set_cons_succ]
            refine wpAnyH_take (i := 20) (oi := { dst := some 35, op := Op.binOp BinOp.lss 3 (Operand.tmp 34) (Operand.const (Value.int IntKind.i64 0)) 3, type := 4, pos := "ref.go:35", after := #[{ on := 19, ground := Ground.data }, { on := 18, ground := Ground.guard }], guard := some (18, true) }) (v := ?_) rfl (by kernel_rfl) (by kernel_rfl) (by kernel_rfl) (fun _ _ _ h => h) (Or.inl ⟨by rfl, ?hy129⟩) hS0 ?_
            case hy129 => (intro V hSw; (try dsimp only at hSw); clear hSw; go_simp; try with_reducible rfl)
            try simp only [Act.put, List.setIfInBounds_toArray, List.set_cons_zero, List.set_cons_succ]
            refine wpAnyH_take (i := 21) (oi := { dst := some 36, op := Op.move (Operand.tmp 35), type := 4, pos := "ref.go:35", after := #[{ on := 20, ground := Ground.data }, { on := 18, ground := Ground.chain }, { on := 18, ground := Ground.guard }], guard := some (18, true) }) (v := ?_) rfl (by kernel_rfl) (by kernel_rfl) (by kernel_rfl) (fun _ _ _ h => h) (Or.inl ⟨by rfl, ?hy130⟩) hS0 ?_
            case hy130 => (intro V hSw; (try dsimp only at hSw); clear hSw; go_simp; try with_reducible rfl)
            try simp only [Act.put, List.setIfInBounds_toArray, List.set_cons_zero, List.set_cons_succ]
            refine wpAnyH_take (i := 22) (oi := { dst := some 37, op := Op.move (Operand.tmp 0), type := 62, pos := "ref.go:35", after := #[{ on := 21, ground := Ground.guard }], guard := some (21, false) }) (v := ?_) rfl (by kernel_rfl) (by kernel_rfl) (by kernel_rfl) (fun _ _ _ h => h) (Or.inl ⟨by rfl, ?hy131⟩) hS0 ?_
            case hy131 => (intro V hSw; (try dsimp only at hSw); clear hSw; go_simp; try with_reducible rfl)
            try simp only [Act.put, List.setIfInBounds_toArray, List.set_cons_zero, List.set_cons_succ]
            refine wpAnyH_take (i := 23) (oi := { dst := some 38, op := Op.move (Operand.tmp 8), type := 3, pos := "ref.go:35", after := #[{ on := 21, ground := Ground.guard }], guard := some (21, false) }) (v := ?_) rfl (by kernel_rfl) (by kernel_rfl) (by kernel_rfl) (fun _ _ _ h => h) (Or.inl ⟨by rfl, ?hy132⟩) hS0 ?_
            case hy132 => (intro V hSw; (try dsimp only at hSw); clear hSw; go_simp; try with_reducible rfl)
            try simp only [Act.put, List.setIfInBounds_toArray, List.set_cons_zero, List.set_cons_succ]
            refine wpAnyH_take (i := 24) (oi := { dst := some 39, op := Op.indexAddr 62 (Operand.tmp 37) (Operand.tmp 38), type := 0, pos := "ref.go:35", after := #[{ on := 22, ground := Ground.data }, { on := 23, ground := Ground.data }, { on := 21, ground := Ground.guard }], guard := some (21, false) }) (v := ?_) rfl (by kernel_rfl) (by kernel_rfl) (by kernel_rfl) (fun _ _ _ h => h) (Or.inl ⟨by rfl, ?hy133⟩) hS0 ?_
            case hy133 => (intro V hSw; (try dsimp only at hSw); clear hSw; go_simp; try with_reducible rfl)
            try simp only [Act.put, List.setIfInBounds_toArray, List.set_cons_zero, List.set_cons_succ]
            refine wpAnyH_take (i := 25) (oi := { dst := some 40, op := Op.fieldAddr 67 (Operand.tmp 39) 0, type := 0, pos := "ref.go:35", after := #[{ on := 24, ground := Ground.data }, { on := 21, ground := Ground.guard }], guard := some (21, false) }) (v := ?_) rfl (by kernel_rfl) (by kernel_rfl) (by kernel_rfl) (fun _ _ _ h => h) (Or.inl ⟨by rfl, ?hy134⟩) hS0 ?_
            case hy134 => (intro V hSw; (try dsimp only at hSw); clear hSw; go_simp; try with_reducible rfl)
            try simp only [Act.put, List.setIfInBounds_toArray, List.set_cons_zero, List.set_cons_succ]
            refine wpAnyH_take (i := 26) (oi := { dst := some 41, op := Op.load 65 (Operand.tmp 40), type := 65, pos := "ref.go:35", after := #[{ on := 25, ground := Ground.data }, { on := 21, ground := Ground.guard }], guard := some (21, false) }) (v := ?_) rfl (by kernel_rfl) (by kernel_rfl) (by kernel_rfl) (fun _ _ _ h => h) (Or.inl ⟨by rfl, ?hy135⟩) hS0 ?_
            case hy135 => (intro V hSw; (try dsimp only at hSw); have q0 := grow_cell hSw.out (block_lt_of_cell d0) d0; have q1 := grow_cell hSw.out (block_lt_of_cell d1) d1; have q2 := grow_cell hSw.out (block_lt_of_cell d2) d2; have q3 := grow_cell hSw.out (block_lt_of_cell e0) e0; have q4 := grow_cell hSw.out (block_lt_of_cell e1) e1; have q5 := grow_cell hSw.out (block_lt_of_cell e2) e2; clear hSw; go_simp; try with_reducible rfl)
            try simp only [Act.put, List.setIfInBounds_toArray, List.set_cons_zero, List.set_cons_succ]
            refine wpAnyH_take (i := 27) (oi := { dst := some 42, op := Op.move (Operand.tmp 0), type := 62, pos := "ref.go:35", after := #[{ on := 21, ground := Ground.guard }], guard := some (21, false) }) (v := ?_) rfl (by kernel_rfl) (by kernel_rfl) (by kernel_rfl) (fun _ _ _ h => h) (Or.inl ⟨by rfl, ?hy136⟩) hS0 ?_
            case hy136 => (intro V hSw; (try dsimp only at hSw); clear hSw; go_simp; try with_reducible rfl)
            try simp only [Act.put, List.setIfInBounds_toArray, List.set_cons_zero, List.set_cons_succ]
            refine wpAnyH_take (i := 28) (oi := { dst := some 43, op := Op.move (Operand.tmp 7), type := 3, pos := "ref.go:35", after := #[{ on := 21, ground := Ground.guard }], guard := some (21, false) }) (v := ?_) rfl (by kernel_rfl) (by kernel_rfl) (by kernel_rfl) (fun _ _ _ h => h) (Or.inl ⟨by rfl, ?hy137⟩) hS0 ?_
            case hy137 => (intro V hSw; (try dsimp only at hSw); clear hSw; go_simp; try with_reducible rfl)
            try simp only [Act.put, List.setIfInBounds_toArray, List.set_cons_zero, List.set_cons_succ]
            refine wpAnyH_take (i := 29) (oi := { dst := some 44, op := Op.indexAddr 62 (Operand.tmp 42) (Operand.tmp 43), type := 0, pos := "ref.go:35", after := #[{ on := 27, ground := Ground.data }, { on := 28, ground := Ground.data }, { on := 21, ground := Ground.guard }], guard := some (21, false) }) (v := ?_) rfl (by kernel_rfl) (by kernel_rfl) (by kernel_rfl) (fun _ _ _ h => h) (Or.inl ⟨by rfl, ?hy138⟩) hS0 ?_
            case hy138 => (intro V hSw; (try dsimp only at hSw); clear hSw; go_simp; try with_reducible rfl)
            try simp only [Act.put, List.setIfInBounds_toArray, List.set_cons_zero, List.set_cons_succ]
            refine wpAnyH_take (i := 30) (oi := { dst := some 45, op := Op.fieldAddr 67 (Operand.tmp 44) 0, type := 0, pos := "ref.go:35", after := #[{ on := 29, ground := Ground.data }, { on := 21, ground := Ground.guard }], guard := some (21, false) }) (v := ?_) rfl (by kernel_rfl) (by kernel_rfl) (by kernel_rfl) (fun _ _ _ h => h) (Or.inl ⟨by rfl, ?hy139⟩) hS0 ?_
            case hy139 => (intro V hSw; (try dsimp only at hSw); clear hSw; go_simp; try with_reducible rfl)
            try simp only [Act.put, List.setIfInBounds_toArray, List.set_cons_zero, List.set_cons_succ]
            refine wpAnyH_take (i := 31) (oi := { dst := some 46, op := Op.load 65 (Operand.tmp 45), type := 65, pos := "ref.go:35", after := #[{ on := 30, ground := Ground.data }, { on := 21, ground := Ground.guard }], guard := some (21, false) }) (v := ?_) rfl (by kernel_rfl) (by kernel_rfl) (by kernel_rfl) (fun _ _ _ h => h) (Or.inl ⟨by rfl, ?hy140⟩) hS0 ?_
            case hy140 => (intro V hSw; (try dsimp only at hSw); have q0 := grow_cell hSw.out (block_lt_of_cell d0) d0; have q1 := grow_cell hSw.out (block_lt_of_cell d1) d1; have q2 := grow_cell hSw.out (block_lt_of_cell d2) d2; have q3 := grow_cell hSw.out (block_lt_of_cell e0) e0; have q4 := grow_cell hSw.out (block_lt_of_cell e1) e1; have q5 := grow_cell hSw.out (block_lt_of_cell e2) e2; clear hSw; go_simp; try with_reducible rfl)
            try simp only [Act.put, List.setIfInBounds_toArray, List.set_cons_zero, List.set_cons_succ]
            refine wpAnyH_ready (rs := [32]) (by kernel_rfl) (by simp) (AllReadyH.cons rfl (fun K hK => ?_) AllReadyH.nil)
            go_simp
            refine (HC.out _).mono ?_
            rintro e wv141 ⟨rfl, hv141⟩
            have hS141 := Lib.hid (hS0.out.trans (hv141.mono hS0.out.size))
            clear hv141
            refine hK.out _ _ hS141 (fun _ => ?_)
            clear hK K
            try simp only [Act.put, List.setIfInBounds_toArray, List.set_cons_zero, List.set_cons_succ]
            refine wpAnyH_take (i := 33) (oi := { dst := some 48, op := Op.binOp BinOp.lss 3 (Operand.tmp 47) (Operand.const (Value.int IntKind.i64 0)) 3, type := 4, pos := "ref.go:35", after := #[{ on := 32, ground := Ground.data }, { on := 21, ground := Ground.guard }], guard := some (21, false) }) (v := ?_) rfl (by kernel_rfl) (by kernel_rfl) (by kernel_rfl) (fun _ _ _ h => h) (Or.inl ⟨by rfl, ?hy142⟩) hS141 ?_
            case hy142 => (intro V hSw; (try dsimp only at hSw); clear hSw; go_simp; try with_reducible rfl)
            try simp only [Act.put, List.setIfInBounds_toArray, List.set_cons_zero, List.set_cons_succ]
            refine wpAnyH_take (i := 34) (oi := { dst := some 49, op := Op.pick (Operand.tmp 36) (Operand.const (Value.bool true)) (Operand.tmp 48), type := 4, pos := "ref.go:35", after := #[{ on := 21, ground := Ground.data }, { on := 33, ground := Ground.data }, { on := 18, ground := Ground.guard }], guard := some (18, true) }) (v := ?_) rfl (by kernel_rfl) (by kernel_rfl) (by kernel_rfl) (fun _ _ _ h => h) (Or.inl ⟨by rfl, ?hy143⟩) hS141 ?_
            case hy143 => (intro V hSw; (try dsimp only at hSw); clear hSw; go_simp; try with_reducible rfl)
            try simp only [Act.put, List.setIfInBounds_toArray, List.set_cons_zero, List.set_cons_succ]
            refine wpAnyH_take (i := 35) (oi := { dst := some 50, op := Op.pick (Operand.tmp 33) (Operand.tmp 49) (Operand.const (Value.bool false)), type := 4, pos := "ref.go:35", after := #[{ on := 18, ground := Ground.data }, { on := 34, ground := Ground.data }], guard := none }) (v := ?_) rfl (by kernel_rfl) (by kernel_rfl) (by kernel_rfl) (fun _ _ _ h => h) (Or.inl ⟨by rfl, ?hy144⟩) hS141 ?_
            case hy144 => (intro V hSw; (try dsimp only at hSw); clear hSw; go_simp; try with_reducible rfl)
            try simp only [Act.put, List.setIfInBounds_toArray, List.set_cons_zero, List.set_cons_succ]
            refine wpAnyH_done (by kernel_rfl) ?_ _
            have HbE := Lib.hid (Hb.out.trans (hS141.out.mono Hb.out.size))
            clear d0 d1 d2 d3 hS0
            go_wp2_with fail
            go_roundw
            case rel => exact ⟨i + 1, by omega, by go_num, by rw [Hst.out], HbE.out⟩
            case measure => simp [intOf]; omega
        · have dse : decide (xs ≤ s) = false := decide_eq_false hse
          have Hst := Lib.hid (hold (by unfold getP; rw [decide_eq_false (p := xs ≤ s) hse, Bool.and_false]))
          clear hold hstep
          generalize getI (l.take i) xu s = B at *
          go_upto_region 5 with fail
          refine wp_region_held_drew (S := fun V' => Hid (Below wq.heap.size wq V')) (by kernel_rfl) (Lib.hid ((Below.refl _ _).drew)) (fun hS0 => ?_)
          refine wpAnyH_take (i := 0) (oi := { dst := some 15, op := Op.move (Operand.tmp 0), type := 62, pos := "ref.go:35", after := #[], guard := none }) (v := ?_) rfl (by kernel_rfl) (by kernel_rfl) (by kernel_rfl) (fun _ _ _ h => h) (Or.inl ⟨by rfl, ?hy37⟩) hS0 ?_
          case hy37 => (intro V hSw; (try dsimp only at hSw); clear hSw; go_simp; try with_reducible rfl)
          try simp only [Act.put, List.setIfInBounds_toArray, List.set_cons_zero, List.set_cons_succ]
          refine wpAnyH_take (i := 1) (oi := { dst := some 16, op := Op.move (Operand.tmp 8), type := 3, pos := "ref.go:35", after := #[], guard := none }) (v := ?_) rfl (by kernel_rfl) (by kernel_rfl) (by kernel_rfl) (fun _ _ _ h => h) (Or.inl ⟨by rfl, ?hy38⟩) hS0 ?_
          case hy38 => (intro V hSw; (try dsimp only at hSw); clear hSw; go_simp; try with_reducible rfl)
          try simp only [Act.put, List.setIfInBounds_toArray, List.set_cons_zero, List.set_cons_succ]
          refine wpAnyH_take (i := 2) (oi := { dst := some 17, op := Op.indexAddr 62 (Operand.tmp 15) (Operand.tmp 16), type := 0, pos := "ref.go:35", after := #[{ on := 0, ground := Ground.data }, { on := 1, ground := Ground.data }], guard := none }) (v := ?_) rfl (by kernel_rfl) (by kernel_rfl) (by kernel_rfl) (fun _ _ _ h => h) (Or.inl ⟨by rfl, ?hy39⟩) hS0 ?_
          case hy39 => (intro V hSw; (try dsimp only at hSw); clear hSw; go_simp; try with_reducible rfl)
          try simp only [Act.put, List.setIfInBounds_toArray, List.set_cons_zero, List.set_cons_succ]
          refine wpAnyH_take (i := 3) (oi := { dst := some 18, op := Op.fieldAddr 67 (Operand.tmp 17) 0, type := 0, pos := "ref.go:35", after := #[{ on := 2, ground := Ground.data }], guard := none }) (v := ?_) rfl (by kernel_rfl) (by kernel_rfl) (by kernel_rfl) (fun _ _ _ h => h) (Or.inl ⟨by rfl, ?hy40⟩) hS0 ?_
          case hy40 => (intro V hSw; (try dsimp only at hSw); clear hSw; go_simp; try with_reducible rfl)
          try simp only [Act.put, List.setIfInBounds_toArray, List.set_cons_zero, List.set_cons_succ]
          refine wpAnyH_take (i := 4) (oi := { dst := some 19, op := Op.fieldAddr 65 (Operand.tmp 18) 0, type := 0, pos := "ref.go:35", after := #[{ on := 3, ground := Ground.data }], guard := none }) (v := ?_) rfl (by kernel_rfl) (by kernel_rfl) (by kernel_rfl) (fun _ _ _ h => h) (Or.inl ⟨by rfl, ?hy41⟩) hS0 ?_
          case hy41 => (intro V hSw; (try dsimp only at hSw); clear hSw; go_simp; try with_reducible rfl)
          try simp only [Act.put, List.setIfInBounds_toArray, List.set_cons_zero, List.set_cons_succ]
          refine wpAnyH_take (i := 5) (oi := { dst := some 20, op := Op.load 9 (Operand.tmp 19), type := 9, pos := "ref.go:35", after := #[{ on := 4, ground := Ground.data }], guard := none }) (v := ?_) rfl (by kernel_rfl) (by kernel_rfl) (by kernel_rfl) (fun _ _ _ h => h) (Or.inl ⟨by rfl, ?hy42⟩) hS0 ?_
          case hy42 => (intro V hSw; (try dsimp only at hSw); have q0 := grow_cell hSw.out (block_lt_of_cell d0) d0; have q1 := grow_cell hSw.out (block_lt_of_cell d1) d1; have q2 := grow_cell hSw.out (block_lt_of_cell d2) d2; clear hSw; go_simp; try with_reducible rfl)
          try simp only [Act.put, List.setIfInBounds_toArray, List.set_cons_zero, List.set_cons_succ]
          refine wpAnyH_take (i := 6) (oi := { dst := some 21, op := Op.move (Operand.tmp 1), type := 9, pos := "ref.go:35", after := #[], guard := none }) (v := ?_) rfl (by kernel_rfl) (by kernel_rfl) (by kernel_rfl) (fun _ _ _ h => h) (Or.inl ⟨by rfl, ?hy43⟩) hS0 ?_
          case hy43 => (intro V hSw; (try dsimp only at hSw); clear hSw; go_simp; try with_reducible rfl)
          try simp only [Act.put, List.setIfInBounds_toArray, List.set_cons_zero, List.set_cons_succ]
          refine wpAnyH_take (i := 7) (oi := { dst := some 22, op := Op.binOp BinOp.eql 9 (Operand.tmp 20) (Operand.tmp 21) 9, type := 4, pos := "ref.go:35", after := #[{ on := 5, ground := Ground.data }, { on := 6, ground := Ground.data }], guard := none }) (v := ?_) rfl (by kernel_rfl) (by kernel_rfl) (by kernel_rfl) (fun _ _ _ h => h) (Or.inl ⟨by rfl, ?hy44⟩) hS0 ?_
          case hy44 => (intro V hSw; (try dsimp only at hSw); clear hSw; go_simp; try with_reducible rfl)
          try simp only [Act.put, List.setIfInBounds_toArray, List.set_cons_zero, List.set_cons_succ]
          refine wpAnyH_take (i := 8) (oi := { dst := some 23, op := Op.move (Operand.tmp 22), type := 4, pos := "ref.go:35", after := #[{ on := 7, ground := Ground.data }], guard := none }) (v := ?_) rfl (by kernel_rfl) (by kernel_rfl) (by kernel_rfl) (fun _ _ _ h => h) (Or.inl ⟨by rfl, ?hy45⟩) hS0 ?_
          case hy45 => (intro V hSw; (try dsimp only at hSw); clear hSw; go_simp; try with_reducible rfl)
          try simp only [Act.put, List.setIfInBounds_toArray, List.set_cons_zero, List.set_cons_succ]
          refine wpAnyH_take (i := 9) (oi := { dst := some 24, op := Op.move (Operand.tmp 0), type := 62, pos := "ref.go:35", after := #[{ on := 8, ground := Ground.guard }], guard := some (8, true) }) (v := ?_) rfl (by kernel_rfl) (by kernel_rfl) (by kernel_rfl) (fun _ _ _ h => h) (Or.inl ⟨by rfl, ?hy46⟩) hS0 ?_
          case hy46 => (intro V hSw; (try dsimp only at hSw); clear hSw; go_simp; try with_reducible rfl)
          try simp only [Act.put, List.setIfInBounds_toArray, List.set_cons_zero, List.set_cons_succ]
          refine wpAnyH_take (i := 10) (oi := { dst := some 25, op := Op.move (Operand.tmp 8), type := 3, pos := "ref.go:35", after := #[{ on := 8, ground := Ground.guard }], guard := some (8, true) }) (v := ?_) rfl (by kernel_rfl) (by kernel_rfl) (by kernel_rfl) (fun _ _ _ h => h) (Or.inl ⟨by rfl, ?hy47⟩) hS0 ?_
          case hy47 => (intro V hSw; (try dsimp only at hSw); clear hSw; go_simp; try with_reducible rfl)
          try simp only [Act.put, List.setIfInBounds_toArray, List.set_cons_zero, List.set_cons_succ]
          refine wpAnyH_take (i := 11) (oi := { dst := some 26, op := Op.indexAddr 62 (Operand.tmp 24) (Operand.tmp 25), type := 0, pos := "ref.go:35", after := #[{ on := 9, ground := Ground.data }, { on := 10, ground := Ground.data }, { on := 8, ground := Ground.guard }], guard := some (8, true) }) (v := ?_) rfl (by kernel_rfl) (by kernel_rfl) (by kernel_rfl) (fun _ _ _ h => h) (Or.inl ⟨by rfl, ?hy48⟩) hS0 ?_
          case hy48 => (intro V hSw; (try dsimp only at hSw); clear hSw; go_simp; try with_reducible rfl)
          try simp only [Act.put, List.setIfInBounds_toArray, List.set_cons_zero, List.set_cons_succ]
          refine wpAnyH_take (i := 12) (oi := { dst := some 27, op := Op.fieldAddr 67 (Operand.tmp 26) 0, type := 0, pos := "ref.go:35", after := #[{ on := 11, ground := Ground.data }, { on := 8, ground := Ground.guard }], guard := some (8, true) }) (v := ?_) rfl (by kernel_rfl) (by kernel_rfl) (by kernel_rfl) (fun _ _ _ h => h) (Or.inl ⟨by rfl, ?hy49⟩) hS0 ?_
          case hy49 => (intro V hSw; (try dsimp only at hSw); clear hSw; go_simp; try with_reducible rfl)
          try simp only [Act.put, List.setIfInBounds_toArray, List.set_cons_zero, List.set_cons_succ]
          refine wpAnyH_take (i := 13) (oi := { dst := some 28, op := Op.fieldAddr 65 (Operand.tmp 27) 1, type := 0, pos := "ref.go:35", after := #[{ on := 12, ground := Ground.data }, { on := 8, ground := Ground.guard }], guard := some (8, true) }) (v := ?_) rfl (by kernel_rfl) (by kernel_rfl) (by kernel_rfl) (fun _ _ _ h => h) (Or.inl ⟨by rfl, ?hy50⟩) hS0 ?_
          case hy50 => (intro V hSw; (try dsimp only at hSw); clear hSw; go_simp; try with_reducible rfl)
          try simp only [Act.put, List.setIfInBounds_toArray, List.set_cons_zero, List.set_cons_succ]
          refine wpAnyH_take (i := 14) (oi := { dst := some 29, op := Op.load 3 (Operand.tmp 28), type := 3, pos := "ref.go:35", after := #[{ on := 13, ground := Ground.data }, { on := 8, ground := Ground.guard }], guard := some (8, true) }) (v := ?_) rfl (by kernel_rfl) (by kernel_rfl) (by kernel_rfl) (fun _ _ _ h => h) (Or.inl ⟨by rfl, ?hy51⟩) hS0 ?_
          case hy51 => (intro V hSw; (try dsimp only at hSw); have q0 := grow_cell hSw.out (block_lt_of_cell d0) d0; have q1 := grow_cell hSw.out (block_lt_of_cell d1) d1; have q2 := grow_cell hSw.out (block_lt_of_cell d2) d2; clear hSw; go_simp; try with_reducible rfl)
          try simp only [Act.put, List.setIfInBounds_toArray, List.set_cons_zero, List.set_cons_succ]
          refine wpAnyH_take (i := 15) (oi := { dst := some 30, op := Op.move (Operand.tmp 2), type := 3, pos := "ref.go:35", after := #[{ on := 8, ground := Ground.guard }], guard := some (8, true) }) (v := ?_) rfl (by kernel_rfl) (by kernel_rfl) (by kernel_rfl) (fun _ _ _ h => h) (Or.inl ⟨by rfl, ?hy52⟩) hS0 ?_
          case hy52 => (intro V hSw; (try dsimp only at hSw); clear hSw; go_simp; try with_reducible rfl)
          try simp only [Act.put, List.setIfInBounds_toArray, List.set_cons_zero, List.set_cons_succ]
          refine wpAnyH_take (i := 16) (oi := { dst := some 31, op := Op.binOp BinOp.leq 3 (Operand.tmp 29) (Operand.tmp 30) 3, type := 4, pos := "ref.go:35", after := #[{ on := 14, ground := Ground.data }, { on := 15, ground := Ground.data }, { on := 8, ground := Ground.guard }], guard := some (8, true) }) (v := ?_) rfl (by kernel_rfl) (by kernel_rfl) (by kernel_rfl) (fun _ _ _ h => h) (Or.inl ⟨by rfl, ?hy53⟩) hS0 ?_
          case hy53 => (intro V hSw; (try dsimp only at hSw); clear hSw; go_simp; try with_reducible rfl)
          try simp only [Act.put, List.setIfInBounds_toArray, List.set_cons_zero, List.set_cons_succ]
          refine wpAnyH_take (i := 17) (oi := { dst := some 32, op := Op.pick (Operand.tmp 23) (Operand.tmp 31) (Operand.const (Value.bool false)), type := 4, pos := "ref.go:35", after := #[{ on := 8, ground := Ground.data }, { on := 16, ground := Ground.data }], guard := none }) (v := ?_) rfl (by kernel_rfl) (by kernel_rfl) (by kernel_rfl) (fun _ _ _ h => h) (Or.inl ⟨by rfl, ?hy54⟩) hS0 ?_
          case hy54 => (intro V hSw; (try dsimp only at hSw); clear hSw; go_simp; try with_reducible rfl)
          try simp only [Act.put, List.setIfInBounds_toArray, List.set_cons_zero, List.set_cons_succ]
          refine wpAnyH_take (i := 18) (oi := { dst := some 33, op := Op.move (Operand.tmp 32), type := 4, pos := "ref.go:35", after := #[{ on := 17, ground := Ground.data }, { on := 8, ground := Ground.chain }], guard := none }) (v := ?_) rfl (by kernel_rfl) (by kernel_rfl) (by kernel_rfl) (fun _ _ _ h => h) (Or.inl ⟨by rfl, ?hy55⟩) hS0 ?_
          case hy55 => (intro V hSw; (try dsimp only at hSw); clear hSw; go_simp; try with_reducible rfl)
          try simp only [Act.put, List.setIfInBounds_toArray, List.set_cons_zero, List.set_cons_succ]
          refine wpAnyH_take (i := 19) (oi := { dst := some 34, op := Op.move (Operand.tmp 7), type := 3, pos := "ref.go:35", after := #[{ on := 18, ground := Ground.guard }], guard := some (18, true) }) (v := undef) rfl (by kernel_rfl) (by kernel_rfl) (by kernel_rfl) (fun _ _ _ h => h) (Or.inr ⟨by rfl, rfl⟩) hS0 ?_
          try simp only [Act.put, List.setIfInBounds_toArray, List.set_cons_zero, List.set_cons_succ]
          refine wpAnyH_take (i := 20) (oi := { dst := some 35, op := Op.binOp BinOp.lss 3 (Operand.tmp 34) (Operand.const (Value.int IntKind.i64 0)) 3, type := 4, pos := "ref.go:35", after := #[{ on := 19, ground := Ground.data }, { on := 18, ground := Ground.guard }], guard := some (18, true) }) (v := undef) rfl (by kernel_rfl) (by kernel_rfl) (by kernel_rfl) (fun _ _ _ h => h) (Or.inr ⟨by rfl, rfl⟩) hS0 ?_
          try simp only [Act.put, List.setIfInBounds_toArray, List.set_cons_zero, List.set_cons_succ]
          refine wpAnyH_take (i := 21) (oi := { dst := some 36, op := Op.move (Operand.tmp 35), type := 4, pos := "ref.go:35", after := #[{ on := 20, ground := Ground.data }, { on := 18, ground := Ground.chain }, { on := 18, ground := Ground.guard }], guard := some (18, true) }) (v := undef) rfl (by kernel_rfl) (by kernel_rfl) (by kernel_rfl) (fun _ _ _ h => h) (Or.inr ⟨by rfl, rfl⟩) hS0 ?_
          try simp only [Act.put, List.setIfInBounds_toArray, List.set_cons_zero, List.set_cons_succ]
          refine wpAnyH_take (i := 22) (oi := { dst := some 37, op := Op.move (Operand.tmp 0), type := 62, pos := "ref.go:35", after := #[{ on := 21, ground := Ground.guard }], guard := some (21, false) }) (v := undef) rfl (by kernel_rfl) (by kernel_rfl) (by kernel_rfl) (fun _ _ _ h => h) (Or.inr ⟨by rfl, rfl⟩) hS0 ?_
          try simp only [Act.put, List.setIfInBounds_toArray, List.set_cons_zero, List.set_cons_succ]
          refine wpAnyH_take (i := 23) (oi := { dst := some 38, op := Op.move (Operand.tmp 8), type := 3, pos := "ref.go:35", after := #[{ on := 21, ground := Ground.guard }], guard := some (21, false) }) (v := undef) rfl (by kernel_rfl) (by kernel_rfl) (by kernel_rfl) (fun _ _ _ h => h) (Or.inr ⟨by rfl, rfl⟩) hS0 ?_
          try simp only [Act.put, List.setIfInBounds_toArray, List.set_cons_zero, List.set_cons_succ]
          refine wpAnyH_take (i := 24) (oi := { dst := some 39, op := Op.indexAddr 62 (Operand.tmp 37) (Operand.tmp 38), type := 0, pos := "ref.go:35", after := #[{ on := 22, ground := Ground.data }, { on := 23, ground := Ground.data }, { on := 21, ground := Ground.guard }], guard := some (21, false) }) (v := undef) rfl (by kernel_rfl) (by kernel_rfl) (by kernel_rfl) (fun _ _ _ h => h) (Or.inr ⟨by rfl, rfl⟩) hS0 ?_
          try simp only [Act.put, List.setIfInBounds_toArray, List.set_cons_zero, List.set_cons_succ]
          refine wpAnyH_take (i := 25) (oi := { dst := some 40, op := Op.fieldAddr 67 (Operand.tmp 39) 0, type := 0, pos := "ref.go:35", after := #[{ on := 24, ground := Ground.data }, { on := 21, ground := Ground.guard }], guard := some (21, false) }) (v := undef) rfl (by kernel_rfl) (by kernel_rfl) (by kernel_rfl) (fun _ _ _ h => h) (Or.inr ⟨by rfl, rfl⟩) hS0 ?_
          try simp only [Act.put, List.setIfInBounds_toArray, List.set_cons_zero, List.set_cons_succ]
          refine wpAnyH_take (i := 26) (oi := { dst := some 41, op := Op.load 65 (Operand.tmp 40), type := 65, pos := "ref.go:35", after := #[{ on := 25, ground := Ground.data }, { on := 21, ground := Ground.guard }], guard := some (21, false) }) (v := undef) rfl (by kernel_rfl) (by kernel_rfl) (by kernel_rfl) (fun _ _ _ h => h) (Or.inr ⟨by rfl, rfl⟩) hS0 ?_
          try simp only [Act.put, List.setIfInBounds_toArray, List.set_cons_zero, List.set_cons_succ]
          refine wpAnyH_take (i := 27) (oi := { dst := some 42, op := Op.move (Operand.tmp 0), type := 62, pos := "ref.go:35", after := #[{ on := 21, ground := Ground.guard }], guard := some (21, false) }) (v := undef) rfl (by kernel_rfl) (by kernel_rfl) (by kernel_rfl) (fun _ _ _ h => h) (Or.inr ⟨by rfl, rfl⟩) hS0 ?_
          try simp only [Act.put, List.setIfInBounds_toArray, List.set_cons_zero, List.set_cons_succ]
          refine wpAnyH_take (i := 28) (oi := { dst := some 43, op := Op.move (Operand.tmp 7), type := 3, pos := "ref.go:35", after := #[{ on := 21, ground := Ground.guard }], guard := some (21, false) }) (v := undef) rfl (by kernel_rfl) (by kernel_rfl) (by kernel_rfl) (fun _ _ _ h => h) (Or.inr ⟨by rfl, rfl⟩) hS0 ?_
          try simp only [Act.put, List.setIfInBounds_toArray, List.set_cons_zero, List.set_cons_succ]
          refine wpAnyH_take (i := 29) (oi := { dst := some 44, op := Op.indexAddr 62 (Operand.tmp 42) (Operand.tmp 43), type := 0, pos := "ref.go:35", after := #[{ on := 27, ground := Ground.data }, { on := 28, ground := Ground.data }, { on := 21, ground := Ground.guard }], guard := some (21, false) }) (v := undef) rfl (by kernel_rfl) (by kernel_rfl) (by kernel_rfl) (fun _ _ _ h => h) (Or.inr ⟨by rfl, rfl⟩) hS0 ?_
          try simp only [Act.put, List.setIfInBounds_toArray, List.set_cons_zero, List.set_cons_succ]
          refine wpAnyH_take (i := 30) (oi := { dst := some 45, op := Op.fieldAddr 67 (Operand.tmp 44) 0, type := 0, pos := "ref.go:35", after := #[{ on := 29, ground := Ground.data }, { on := 21, ground := Ground.guard }], guard := some (21, false) }) (v := undef) rfl (by kernel_rfl) (by kernel_rfl) (by kernel_rfl) (fun _ _ _ h => h) (Or.inr ⟨by rfl, rfl⟩) hS0 ?_
          try simp only [Act.put, List.setIfInBounds_toArray, List.set_cons_zero, List.set_cons_succ]
          refine wpAnyH_take (i := 31) (oi := { dst := some 46, op := Op.load 65 (Operand.tmp 45), type := 65, pos := "ref.go:35", after := #[{ on := 30, ground := Ground.data }, { on := 21, ground := Ground.guard }], guard := some (21, false) }) (v := undef) rfl (by kernel_rfl) (by kernel_rfl) (by kernel_rfl) (fun _ _ _ h => h) (Or.inr ⟨by rfl, rfl⟩) hS0 ?_
          try simp only [Act.put, List.setIfInBounds_toArray, List.set_cons_zero, List.set_cons_succ]
          refine wpAnyH_take (i := 32) (oi := { dst := some 47, op := Op.call { callee := Callee.value (Operand.func 70), args := #[Operand.tmp 41, Operand.tmp 46], argTypes := #[65, 65] }, type := 3, pos := "ref.go:35", after := #[{ on := 26, ground := Ground.data }, { on := 31, ground := Ground.data }, { on := 21, ground := Ground.chain }, { on := 21, ground := Ground.guard }], guard := some (21, false) }) (v := undef) rfl (by kernel_rfl) (by kernel_rfl) (by kernel_rfl) (fun _ _ _ h => h) (Or.inr ⟨by rfl, rfl⟩) hS0 ?_
          try simp only [Act.put, List.setIfInBounds_toArray, List.set_cons_zero, List.set_cons_succ]
          refine wpAnyH_take (i := 33) (oi := { dst := some 48, op := Op.binOp BinOp.lss 3 (Operand.tmp 47) (Operand.const (Value.int IntKind.i64 0)) 3, type := 4, pos := "ref.go:35", after := #[{ on := 32, ground := Ground.data }, { on := 21, ground := Ground.guard }], guard := some (21, false) }) (v := undef) rfl (by kernel_rfl) (by kernel_rfl) (by kernel_rfl) (fun _ _ _ h => h) (Or.inr ⟨by rfl, rfl⟩) hS0 ?_
          try simp only [Act.put, List.setIfInBounds_toArray, List.set_cons_zero, List.set_cons_succ]
          refine wpAnyH_take (i := 34) (oi := { dst := some 49, op := Op.pick (Operand.tmp 36) (Operand.const (Value.bool true)) (Operand.tmp 48), type := 4, pos := "ref.go:35", after := #[{ on := 21, ground := Ground.data }, { on := 33, ground := Ground.data }, { on := 18, ground := Ground.guard }], guard := some (18, true) }) (v := undef) rfl (by kernel_rfl) (by kernel_rfl) (by kernel_rfl) (fun _ _ _ h => h) (Or.inr ⟨by rfl, rfl⟩) hS0 ?_
          try simp only [Act.put, List.setIfInBounds_toArray, List.set_cons_zero, List.set_cons_succ]
          refine wpAnyH_take (i := 35) (oi := { dst := some 50, op := Op.pick (Operand.tmp 33) (Operand.tmp 49) (Operand.const (Value.bool false)), type := 4, pos := "ref.go:35", after := #[{ on := 18, ground := Ground.data }, { on := 34, ground := Ground.data }], guard := none }) (v := ?_) rfl (by kernel_rfl) (by kernel_rfl) (by kernel_rfl) (fun _ _ _ h => h) (Or.inl ⟨by rfl, ?hy72⟩) hS0 ?_
          case hy72 => (intro V hSw; (try dsimp only at hSw); clear hSw; go_simp; try with_reducible rfl)
          try simp only [Act.put, List.setIfInBounds_toArray, List.set_cons_zero, List.set_cons_succ]
          refine wpAnyH_done (by kernel_rfl) ?_ _
          have HbE := Lib.hid (Hb.out.trans (hS0.out.mono Hb.out.size))
          clear d0 d1 d2 d3 hS0
          go_wp2_with fail
          go_roundw
          case rel => exact ⟨i + 1, by omega, by go_num, by rw [Hst.out], HbE.out⟩
          case measure => simp [intOf]; omega
      · have hq := str_no hue
        have Hst := Lib.hid (hold (by unfold getP; rw [decide_eq_false (p := xu = u) hue, Bool.false_and]))
        clear hold hstep
        generalize getI (l.take i) u s = B at *
        go_upto_region 5 with fail
        refine wp_region_held_drew (S := fun V' => Hid (Below wq.heap.size wq V')) (by kernel_rfl) (Lib.hid ((Below.refl _ _).drew)) (fun hS0 => ?_)
        refine wpAnyH_take (i := 0) (oi := { dst := some 15, op := Op.move (Operand.tmp 0), type := 62, pos := "ref.go:35", after := #[], guard := none }) (v := ?_) rfl (by kernel_rfl) (by kernel_rfl) (by kernel_rfl) (fun _ _ _ h => h) (Or.inl ⟨by rfl, ?hy1⟩) hS0 ?_
        case hy1 => (intro V hSw; (try dsimp only at hSw); clear hSw; go_simp; try with_reducible rfl)
        try simp only [Act.put, List.setIfInBounds_toArray, List.set_cons_zero, List.set_cons_succ]
        refine wpAnyH_take (i := 1) (oi := { dst := some 16, op := Op.move (Operand.tmp 8), type := 3, pos := "ref.go:35", after := #[], guard := none }) (v := ?_) rfl (by kernel_rfl) (by kernel_rfl) (by kernel_rfl) (fun _ _ _ h => h) (Or.inl ⟨by rfl, ?hy2⟩) hS0 ?_
        case hy2 => (intro V hSw; (try dsimp only at hSw); clear hSw; go_simp; try with_reducible rfl)
        try simp only [Act.put, List.setIfInBounds_toArray, List.set_cons_zero, List.set_cons_succ]
        refine wpAnyH_take (i := 2) (oi := { dst := some 17, op := Op.indexAddr 62 (Operand.tmp 15) (Operand.tmp 16), type := 0, pos := "ref.go:35", after := #[{ on := 0, ground := Ground.data }, { on := 1, ground := Ground.data }], guard := none }) (v := ?_) rfl (by kernel_rfl) (by kernel_rfl) (by kernel_rfl) (fun _ _ _ h => h) (Or.inl ⟨by rfl, ?hy3⟩) hS0 ?_
        case hy3 => (intro V hSw; (try dsimp only at hSw); clear hSw; go_simp; try with_reducible rfl)
        try simp only [Act.put, List.setIfInBounds_toArray, List.set_cons_zero, List.set_cons_succ]
        refine wpAnyH_take (i := 3) (oi := { dst := some 18, op := Op.fieldAddr 67 (Operand.tmp 17) 0, type := 0, pos := "ref.go:35", after := #[{ on := 2, ground := Ground.data }], guard := none }) (v := ?_) rfl (by kernel_rfl) (by kernel_rfl) (by kernel_rfl) (fun _ _ _ h => h) (Or.inl ⟨by rfl, ?hy4⟩) hS0 ?_
        case hy4 => (intro V hSw; (try dsimp only at hSw); clear hSw; go_simp; try with_reducible rfl)
        try simp only [Act.put, List.setIfInBounds_toArray, List.set_cons_zero, List.set_cons_succ]
        refine wpAnyH_take (i := 4) (oi := { dst := some 19, op := Op.fieldAddr 65 (Operand.tmp 18) 0, type := 0, pos := "ref.go:35", after := #[{ on := 3, ground := Ground.data }], guard := none }) (v := ?_) rfl (by kernel_rfl) (by kernel_rfl) (by kernel_rfl) (fun _ _ _ h => h) (Or.inl ⟨by rfl, ?hy5⟩) hS0 ?_
        case hy5 => (intro V hSw; (try dsimp only at hSw); clear hSw; go_simp; try with_reducible rfl)
        try simp only [Act.put, List.setIfInBounds_toArray, List.set_cons_zero, List.set_cons_succ]
        refine wpAnyH_take (i := 5) (oi := { dst := some 20, op := Op.load 9 (Operand.tmp 19), type := 9, pos := "ref.go:35", after := #[{ on := 4, ground := Ground.data }], guard := none }) (v := ?_) rfl (by kernel_rfl) (by kernel_rfl) (by kernel_rfl) (fun _ _ _ h => h) (Or.inl ⟨by rfl, ?hy6⟩) hS0 ?_
        case hy6 => (intro V hSw; (try dsimp only at hSw); have q0 := grow_cell hSw.out (block_lt_of_cell d0) d0; have q1 := grow_cell hSw.out (block_lt_of_cell d1) d1; have q2 := grow_cell hSw.out (block_lt_of_cell d2) d2; clear hSw; go_simp; try with_reducible rfl)
        try simp only [Act.put, List.setIfInBounds_toArray, List.set_cons_zero, List.set_cons_succ]
        refine wpAnyH_take (i := 6) (oi := { dst := some 21, op := Op.move (Operand.tmp 1), type := 9, pos := "ref.go:35", after := #[], guard := none }) (v := ?_) rfl (by kernel_rfl) (by kernel_rfl) (by kernel_rfl) (fun _ _ _ h => h) (Or.inl ⟨by rfl, ?hy7⟩) hS0 ?_
        case hy7 => (intro V hSw; (try dsimp only at hSw); clear hSw; go_simp; try with_reducible rfl)
        try simp only [Act.put, List.setIfInBounds_toArray, List.set_cons_zero, List.set_cons_succ]
        refine wpAnyH_take (i := 7) (oi := { dst := some 22, op := Op.binOp BinOp.eql 9 (Operand.tmp 20) (Operand.tmp 21) 9, type := 4, pos := "ref.go:35", after := #[{ on := 5, ground := Ground.data }, { on := 6, ground := Ground.data }], guard := none }) (v := ?_) rfl (by kernel_rfl) (by kernel_rfl) (by kernel_rfl) (fun _ _ _ h => h) (Or.inl ⟨by rfl, ?hy8⟩) hS0 ?_
        case hy8 => (intro V hSw; (try dsimp only at hSw); clear hSw; go_simp; try with_reducible rfl)
        try simp only [Act.put, List.setIfInBounds_toArray, List.set_cons_zero, List.set_cons_succ]
        refine wpAnyH_take (i := 8) (oi := { dst := some 23, op := Op.move (Operand.tmp 22), type := 4, pos := "ref.go:35", after := #[{ on := 7, ground := Ground.data }], guard := none }) (v := ?_) rfl (by kernel_rfl) (by kernel_rfl) (by kernel_rfl) (fun _ _ _ h => h) (Or.inl ⟨by rfl, ?hy9⟩) hS0 ?_
        case hy9 => (intro V hSw; (try dsimp only at hSw); clear hSw; go_simp; try with_reducible rfl)
        try simp only [Act.put, List.setIfInBounds_toArray, List.set_cons_zero, List.set_cons_succ]
        refine wpAnyH_take (i := 9) (oi := { dst := some 24, op := Op.move (Operand.tmp 0), type := 62, pos := "ref.go:35", after := #[{ on := 8, ground := Ground.guard }], guard := some (8, true) }) (v := undef) rfl (by kernel_rfl) (by kernel_rfl) (by kernel_rfl) (fun _ _ _ h => h) (Or.inr ⟨by rfl, rfl⟩) hS0 ?_
        try simp only [Act.put, List.setIfInBounds_toArray, List.set_cons_zero, List.set_cons_succ]
        refine wpAnyH_take (i := 10) (oi := { dst := some 25, op := Op.move (Operand.tmp 8), type := 3, pos := "ref.go:35", after := #[{ on := 8, ground := Ground.guard }], guard := some (8, true) }) (v := undef) rfl (by kernel_rfl) (by kernel_rfl) (by kernel_rfl) (fun _ _ _ h => h) (Or.inr ⟨by rfl, rfl⟩) hS0 ?_
        try simp only [Act.put, List.setIfInBounds_toArray, List.set_cons_zero, List.set_cons_succ]
        refine wpAnyH_take (i := 11) (oi := { dst := some 26, op := Op.indexAddr 62 (Operand.tmp 24) (Operand.tmp 25), type := 0, pos := "ref.go:35", after := #[{ on := 9, ground := Ground.data }, { on := 10, ground := Ground.data }, { on := 8, ground := Ground.guard }], guard := some (8, true) }) (v := undef) rfl (by kernel_rfl) (by kernel_rfl) (by kernel_rfl) (fun _ _ _ h => h) (Or.inr ⟨by rfl, rfl⟩) hS0 ?_
        try simp only [Act.put, List.setIfInBounds_toArray, List.set_cons_zero, List.set_cons_succ]
        refine wpAnyH_take (i := 12) (oi := { dst := some 27, op := Op.fieldAddr 67 (Operand.tmp 26) 0, type := 0, pos := "ref.go:35", after := #[{ on := 11, ground := Ground.data }, { on := 8, ground := Ground.guard }], guard := some (8, true) }) (v := undef) rfl (by kernel_rfl) (by kernel_rfl) (by kernel_rfl) (fun _ _ _ h => h) (Or.inr ⟨by rfl, rfl⟩) hS0 ?_
        try simp only [Act.put, List.setIfInBounds_toArray, List.set_cons_zero, List.set_cons_succ]
        refine wpAnyH_take (i := 13) (oi := { dst := some 28, op := Op.fieldAddr 65 (Operand.tmp 27) 1, type := 0, pos := "ref.go:35", after := #[{ on := 12, ground := Ground.data }, { on := 8, ground := Ground.guard }], guard := some (8, true) }) (v := undef) rfl (by kernel_rfl) (by kernel_rfl) (by kernel_rfl) (fun _ _ _ h => h) (Or.inr ⟨by rfl, rfl⟩) hS0 ?_
        try simp only [Act.put, List.setIfInBounds_toArray, List.set_cons_zero, List.set_cons_succ]
        refine wpAnyH_take (i := 14) (oi := { dst := some 29, op := Op.load 3 (Operand.tmp 28), type := 3, pos := "ref.go:35", after := #[{ on := 13, ground := Ground.data }, { on := 8, ground := Ground.guard }], guard := some (8, true) }) (v := undef) rfl (by kernel_rfl) (by kernel_rfl) (by kernel_rfl) (fun _ _ _ h => h) (Or.inr ⟨by rfl, rfl⟩) hS0 ?_
        try simp only [Act.put, List.setIfInBounds_toArray, List.set_cons_zero, List.set_cons_succ]
        refine wpAnyH_take (i := 15) (oi := { dst := some 30, op := Op.move (Operand.tmp 2), type := 3, pos := "ref.go:35", after := #[{ on := 8, ground := Ground.guard }], guard := some (8, true) }) (v := undef) rfl (by kernel_rfl) (by kernel_rfl) (by kernel_rfl) (fun _ _ _ h => h) (Or.inr ⟨by rfl, rfl⟩) hS0 ?_
        try simp only [Act.put, List.setIfInBounds_toArray, List.set_cons_zero, List.set_cons_succ]
        refine wpAnyH_take (i := 16) (oi := { dst := some 31, op := Op.binOp BinOp.leq 3 (Operand.tmp 29) (Operand.tmp 30) 3, type := 4, pos := "ref.go:35", after := #[{ on := 14, ground := Ground.data }, { on := 15, ground := Ground.data }, { on := 8, ground := Ground.guard }], guard := some (8, true) }) (v := undef) rfl (by kernel_rfl) (by kernel_rfl) (by kernel_rfl) (fun _ _ _ h => h) (Or.inr ⟨by rfl, rfl⟩) hS0 ?_
        try simp only [Act.put, List.setIfInBounds_toArray, List.set_cons_zero, List.set_cons_succ]
        refine wpAnyH_take (i := 17) (oi := { dst := some 32, op := Op.pick (Operand.tmp 23) (Operand.tmp 31) (Operand.const (Value.bool false)), type := 4, pos := "ref.go:35", after := #[{ on := 8, ground := Ground.data }, { on := 16, ground := Ground.data }], guard := none }) (v := ?_) rfl (by kernel_rfl) (by kernel_rfl) (by kernel_rfl) (fun _ _ _ h => h) (Or.inl ⟨by rfl, ?hy18⟩) hS0 ?_
        case hy18 => (intro V hSw; (try dsimp only at hSw); clear hSw; go_simp; try with_reducible rfl)
        try simp only [Act.put, List.setIfInBounds_toArray, List.set_cons_zero, List.set_cons_succ]
        refine wpAnyH_take (i := 18) (oi := { dst := some 33, op := Op.move (Operand.tmp 32), type := 4, pos := "ref.go:35", after := #[{ on := 17, ground := Ground.data }, { on := 8, ground := Ground.chain }], guard := none }) (v := ?_) rfl (by kernel_rfl) (by kernel_rfl) (by kernel_rfl) (fun _ _ _ h => h) (Or.inl ⟨by rfl, ?hy19⟩) hS0 ?_
        case hy19 => (intro V hSw; (try dsimp only at hSw); clear hSw; go_simp; try with_reducible rfl)
        try simp only [Act.put, List.setIfInBounds_toArray, List.set_cons_zero, List.set_cons_succ]
        refine wpAnyH_take (i := 19) (oi := { dst := some 34, op := Op.move (Operand.tmp 7), type := 3, pos := "ref.go:35", after := #[{ on := 18, ground := Ground.guard }], guard := some (18, true) }) (v := undef) rfl (by kernel_rfl) (by kernel_rfl) (by kernel_rfl) (fun _ _ _ h => h) (Or.inr ⟨by rfl, rfl⟩) hS0 ?_
        try simp only [Act.put, List.setIfInBounds_toArray, List.set_cons_zero, List.set_cons_succ]
        refine wpAnyH_take (i := 20) (oi := { dst := some 35, op := Op.binOp BinOp.lss 3 (Operand.tmp 34) (Operand.const (Value.int IntKind.i64 0)) 3, type := 4, pos := "ref.go:35", after := #[{ on := 19, ground := Ground.data }, { on := 18, ground := Ground.guard }], guard := some (18, true) }) (v := undef) rfl (by kernel_rfl) (by kernel_rfl) (by kernel_rfl) (fun _ _ _ h => h) (Or.inr ⟨by rfl, rfl⟩) hS0 ?_
        try simp only [Act.put, List.setIfInBounds_toArray, List.set_cons_zero, List.set_cons_succ]
        refine wpAnyH_take (i := 21) (oi := { dst := some 36, op := Op.move (Operand.tmp 35), type := 4, pos := "ref.go:35", after := #[{ on := 20, ground := Ground.data }, { on := 18, ground := Ground.chain }, { on := 18, ground := Ground.guard }], guard := some (18, true) }) (v := undef) rfl (by kernel_rfl) (by kernel_rfl) (by kernel_rfl) (fun _ _ _ h => h) (Or.inr ⟨by rfl, rfl⟩) hS0 ?_
        try simp only [Act.put, List.setIfInBounds_toArray, List.set_cons_zero, List.set_cons_succ]
        refine wpAnyH_take (i := 22) (oi := { dst := some 37, op := Op.move (Operand.tmp 0), type := 62, pos := "ref.go:35", after := #[{ on := 21, ground := Ground.guard }], guard := some (21, false) }) (v := undef) rfl (by kernel_rfl) (by kernel_rfl) (by kernel_rfl) (fun _ _ _ h => h) (Or.inr ⟨by rfl, rfl⟩) hS0 ?_
        try simp only [Act.put, List.setIfInBounds_toArray, List.set_cons_zero, List.set_cons_succ]
        refine wpAnyH_take (i := 23) (oi := { dst := some 38, op := Op.move (Operand.tmp 8), type := 3, pos := "ref.go:35", after := #[{ on := 21, ground := Ground.guard }], guard := some (21, false) }) (v := undef) rfl (by kernel_rfl) (by kernel_rfl) (by kernel_rfl) (fun _ _ _ h => h) (Or.inr ⟨by rfl, rfl⟩) hS0 ?_
        try simp only [Act.put, List.setIfInBounds_toArray, List.set_cons_zero, List.set_cons_succ]
        refine wpAnyH_take (i := 24) (oi := { dst := some 39, op := Op.indexAddr 62 (Operand.tmp 37) (Operand.tmp 38), type := 0, pos := "ref.go:35", after := #[{ on := 22, ground := Ground.data }, { on := 23, ground := Ground.data }, { on := 21, ground := Ground.guard }], guard := some (21, false) }) (v := undef) rfl (by kernel_rfl) (by kernel_rfl) (by kernel_rfl) (fun _ _ _ h => h) (Or.inr ⟨by rfl, rfl⟩) hS0 ?_
        try simp only [Act.put, List.setIfInBounds_toArray, List.set_cons_zero, List.set_cons_succ]
        refine wpAnyH_take (i := 25) (oi := { dst := some 40, op := Op.fieldAddr 67 (Operand.tmp 39) 0, type := 0, pos := "ref.go:35", after := #[{ on := 24, ground := Ground.data }, { on := 21, ground := Ground.guard }], guard := some (21, false) }) (v := undef) rfl (by kernel_rfl) (by kernel_rfl) (by kernel_rfl) (fun _ _ _ h => h) (Or.inr ⟨by rfl, rfl⟩) hS0 ?_
        try simp only [Act.put, List.setIfInBounds_toArray, List.set_cons_zero, List.set_cons_succ]
        refine wpAnyH_take (i := 26) (oi := { dst := some 41, op := Op.load 65 (Operand.tmp 40), type := 65, pos := "ref.go:35", after := #[{ on := 25, ground := Ground.data }, { on := 21, ground := Ground.guard }], guard := some (21, false) }) (v := undef) rfl (by kernel_rfl) (by kernel_rfl) (by kernel_rfl) (fun _ _ _ h => h) (Or.inr ⟨by rfl, rfl⟩) hS0 ?_
        try simp only [Act.put, List.setIfInBounds_toArray, List.set_cons_zero, List.set_cons_succ]
        refine wpAnyH_take (i := 27) (oi := { dst := some 42, op := Op.move (Operand.tmp 0), type := 62, pos := "ref.go:35", after := #[{ on := 21, ground := Ground.guard }], guard := some (21, false) }) (v := undef) rfl (by kernel_rfl) (by kernel_rfl) (by kernel_rfl) (fun _ _ _ h => h) (Or.inr ⟨by rfl, rfl⟩) hS0 ?_
        try simp only [Act.put, List.setIfInBounds_toArray, List.set_cons_zero, List.set_cons_succ]
        refine wpAnyH_take (i := 28) (oi := { dst := some 43, op := Op.move (Operand.tmp 7), type := 3, pos := "ref.go:35", after := #[{ on := 21, ground := Ground.guard }], guard := some (21, false) }) (v := undef) rfl (by kernel_rfl) (by kernel_rfl) (by kernel_rfl) (fun _ _ _ h => h) (Or.inr ⟨by rfl, rfl⟩) hS0 ?_
        try simp only [Act.put, List.setIfInBounds_toArray, List.set_cons_zero, List.set_cons_succ]
        refine wpAnyH_take (i := 29) (oi := { dst := some 44, op := Op.indexAddr 62 (Operand.tmp 42) (Operand.tmp 43), type := 0, pos := "ref.go:35", after := #[{ on := 27, ground := Ground.data }, { on := 28, ground := Ground.data }, { on := 21, ground := Ground.guard }], guard := some (21, false) }) (v := undef) rfl (by kernel_rfl) (by kernel_rfl) (by kernel_rfl) (fun _ _ _ h => h) (Or.inr ⟨by rfl, rfl⟩) hS0 ?_
        try simp only [Act.put, List.setIfInBounds_toArray, List.set_cons_zero, List.set_cons_succ]
        refine wpAnyH_take (i := 30) (oi := { dst := some 45, op := Op.fieldAddr 67 (Operand.tmp 44) 0, type := 0, pos := "ref.go:35", after := #[{ on := 29, ground := Ground.data }, { on := 21, ground := Ground.guard }], guard := some (21, false) }) (v := undef) rfl (by kernel_rfl) (by kernel_rfl) (by kernel_rfl) (fun _ _ _ h => h) (Or.inr ⟨by rfl, rfl⟩) hS0 ?_
        try simp only [Act.put, List.setIfInBounds_toArray, List.set_cons_zero, List.set_cons_succ]
        refine wpAnyH_take (i := 31) (oi := { dst := some 46, op := Op.load 65 (Operand.tmp 45), type := 65, pos := "ref.go:35", after := #[{ on := 30, ground := Ground.data }, { on := 21, ground := Ground.guard }], guard := some (21, false) }) (v := undef) rfl (by kernel_rfl) (by kernel_rfl) (by kernel_rfl) (fun _ _ _ h => h) (Or.inr ⟨by rfl, rfl⟩) hS0 ?_
        try simp only [Act.put, List.setIfInBounds_toArray, List.set_cons_zero, List.set_cons_succ]
        refine wpAnyH_take (i := 32) (oi := { dst := some 47, op := Op.call { callee := Callee.value (Operand.func 70), args := #[Operand.tmp 41, Operand.tmp 46], argTypes := #[65, 65] }, type := 3, pos := "ref.go:35", after := #[{ on := 26, ground := Ground.data }, { on := 31, ground := Ground.data }, { on := 21, ground := Ground.chain }, { on := 21, ground := Ground.guard }], guard := some (21, false) }) (v := undef) rfl (by kernel_rfl) (by kernel_rfl) (by kernel_rfl) (fun _ _ _ h => h) (Or.inr ⟨by rfl, rfl⟩) hS0 ?_
        try simp only [Act.put, List.setIfInBounds_toArray, List.set_cons_zero, List.set_cons_succ]
        refine wpAnyH_take (i := 33) (oi := { dst := some 48, op := Op.binOp BinOp.lss 3 (Operand.tmp 47) (Operand.const (Value.int IntKind.i64 0)) 3, type := 4, pos := "ref.go:35", after := #[{ on := 32, ground := Ground.data }, { on := 21, ground := Ground.guard }], guard := some (21, false) }) (v := undef) rfl (by kernel_rfl) (by kernel_rfl) (by kernel_rfl) (fun _ _ _ h => h) (Or.inr ⟨by rfl, rfl⟩) hS0 ?_
        try simp only [Act.put, List.setIfInBounds_toArray, List.set_cons_zero, List.set_cons_succ]
        refine wpAnyH_take (i := 34) (oi := { dst := some 49, op := Op.pick (Operand.tmp 36) (Operand.const (Value.bool true)) (Operand.tmp 48), type := 4, pos := "ref.go:35", after := #[{ on := 21, ground := Ground.data }, { on := 33, ground := Ground.data }, { on := 18, ground := Ground.guard }], guard := some (18, true) }) (v := undef) rfl (by kernel_rfl) (by kernel_rfl) (by kernel_rfl) (fun _ _ _ h => h) (Or.inr ⟨by rfl, rfl⟩) hS0 ?_
        try simp only [Act.put, List.setIfInBounds_toArray, List.set_cons_zero, List.set_cons_succ]
        refine wpAnyH_take (i := 35) (oi := { dst := some 50, op := Op.pick (Operand.tmp 33) (Operand.tmp 49) (Operand.const (Value.bool false)), type := 4, pos := "ref.go:35", after := #[{ on := 18, ground := Ground.data }, { on := 34, ground := Ground.data }], guard := none }) (v := ?_) rfl (by kernel_rfl) (by kernel_rfl) (by kernel_rfl) (fun _ _ _ h => h) (Or.inl ⟨by rfl, ?hy36⟩) hS0 ?_
        case hy36 => (intro V hSw; (try dsimp only at hSw); clear hSw; go_simp; try with_reducible rfl)
        try simp only [Act.put, List.setIfInBounds_toArray, List.set_cons_zero, List.set_cons_succ]
        refine wpAnyH_done (by kernel_rfl) ?_ _
        have HbE := Lib.hid (Hb.out.trans (hS0.out.mono Hb.out.size))
        clear d0 d1 d2 d3 hS0
        go_wp2_with fail
        go_roundw
        case rel => exact ⟨i + 1, by omega, by go_num, by rw [Hst.out], HbE.out⟩
        case measure => simp [intOf]; omega
    · obtain rfl : i = n := by omega
      have ht : l.take i = l := by rw [Hn.out, List.take_length]
      rw [ht]
      clear ht
      go_wp2_with fail
      go_ret
      exact ⟨rfl, Hb.out⟩
end Go.Proofs.Ytkjfjcigmmooiaa.Tithe
