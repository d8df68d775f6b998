/- A model's ops: the iterator, walked. -/
import Derived.Test.YtbnodgoccmhjkaaRangeS
import Derived.Test.YtbnodgoccmhjkaaFlatMap
import Derived.Test.YtbnodgoccmhjkaaFlatSmall
import Derived.Sort.LoopGhostIn
import Derived.WalkMore
namespace Go.Proofs.Ytbnodgoccmhjkaa.Tithe
open Go.RowKit Go.Sort Go.Shelf
set_option linter.unusedVariables false
set_option linter.unusedSimpArgs false
set_option maxRecDepth 100000
def opEnc (l : List Bo) (k : Nat) : Array Value := match l[k]? with
  | some x => #[.agg #[.int .i64 x.k, .string x.u, .string x.v]]
  | none => #[.agg #[]]
theorem opEnc_size (l : List Bo) (k : Nat) : (opEnc l k).size = 1 := by
  unfold opEnc; split <;> rfl
theorem opEnc_at {l : List Bo} {k : Nat} {x : Bo} (h : l[k]? = some x) : opEnc l k = #[.agg #[.int .i64 x.k, .string x.u, .string x.v]] := by
  unfold opEnc; rw [h]
/-- the ops of the first writes -/
def flatO (rows : List Wr) (n : Nat) : List Bo := ((opsOf rows).take n).flatten
theorem flatO_succ {rows : List Wr} {n : Nat} {r : Wr} (h : rows[n]? = some r) : flatO rows (n + 1) = flatO rows n ++ r.2 := by
  have : (opsOf rows)[n]? = some r.2 := by unfold opsOf; rw [List.getElem?_map, h]; rfl
  unfold flatO
  rw [List.take_add_one, this, List.flatten_append]; simp
theorem flatO_at {rows : List Wr} {n N i : Nat} {r : Wr} {x : Bo} (hn : n < N) (h : rows[n]? = some r) (hx : r.2[i]? = some x) : (flatO rows N)[(flatO rows n).length + i]? = some x := by
  obtain ⟨d, rfl⟩ : ∃ d, N = n + 1 + d := ⟨N - (n + 1), by omega⟩
  have h1 : flatO rows (n + 1 + d) = flatO rows (n + 1) ++ (((opsOf rows).drop (n + 1)).take d).flatten := by
    unfold flatO
    rw [List.take_add, List.flatten_append]
  rw [h1, flatO_succ h, List.append_assoc, List.getElem?_append_right (Nat.le_add_right _ _), Nat.add_sub_cancel_left, List.getElem?_append_left (List.getElem?_eq_some_iff.1 hx).1, hx]
/-- what the iterator reads -/
def OpsDat (bm bn mb : Nat) (k : Int) (w0 : World) (W : World) : Prop :=
  W.heap[bm]? = some (.cells #[.pointer (some ⟨mb, 0, none⟩)] 25 (0, 0)) ∧ W.heap[bn]? = some (.cells #[.int .i64 k] 3 (0, 0)) ∧ Below w0.heap.size w0 W
attribute [local go_sem] Oper.semAt_some
theorem ops_any (mb : Nat) (k : Int) (w : World) :
    Calls Try.prog 31 #[.pointer (some ⟨mb, 0, none⟩), .int .i64 k] w fun e w' => e = .returned (.func (.func 49) #[] #[.pointer (some ⟨w.heap.size, 0, none⟩), .pointer (some ⟨w.heap.size + 1, 0, none⟩)]) ∧ w' = (w.alloc (.cells #[.pointer (some ⟨mb, 0, none⟩)] 25)).alloc (.cells #[.int .i64 k] 3) := by
  go_enter Try.func31, Try.ntmps31
  go_wp2
  go_ret
  exact ⟨rfl, rfl⟩
set_option maxHeartbeats 1600000 in
theorem ops_iter (bm bn mb : Nat) (k : Int) (most last : Int) (a : Option Addr) (c : Nat) (rows : List Wr) (sm im : Nat) (hd : Int) (w0 : World) (hB : w0.heap[mb]? = some (.cells (moC most last (.slice a rows.length c) sm im hd) 78 (0, 0))) (h : IsWs w0 (.slice a rows.length c) rows) (hl : rows.length ≤ 1000000) :
    IterOkS Try.prog 49 #[.pointer (some ⟨bm, 0, none⟩), .pointer (some ⟨bn, 0, none⟩)] (opEnc (flatO rows (min k.toNat rows.length))) (flatO rows (min k.toNat rows.length)).length (OpsDat bm bn mb k w0) := by
  intro yl J Jx W hD hJ hJx hY h0
  obtain ⟨hsl, hrr⟩ := h
  obtain ⟨-, hc, hm, hx⟩ := hsl.at
  obtain ⟨n, hn⟩ : ∃ n, n = rows.length := ⟨_, rfl⟩
  rw [← hn] at hc hx hl hB hY ⊢
  have Hx := Lib.hid hx
  have Hn := Lib.hid hn
  have Hrr := Lib.hid hrr
  obtain ⟨N, hN⟩ : ∃ N, N = min k.toNat n := ⟨_, rfl⟩
  have hd0 := hD 0 W h0
  have HCl := Lib.hid (fun (A : World) (hA : Below W.heap.size W A) => (clip_any A mb most last a n c sm im hd k (blk_bels hA (blk_bels hd0.2.2 hB)) hl).mono (fun e w' (q : e = .returned (.int .i64 (min k.toNat n : Nat)) ∧ w' = A) => (⟨q.1, by rw [q.2]; exact Below.refl _ _⟩ : e = .returned (.int .i64 (min k.toNat n : Nat)) ∧ Below A.heap.size A w')))
  rw [← hN] at HCl
  rw [← hN] at hY ⊢
  have hNn : N ≤ n := by omega
  have HN := Lib.hid hN
  have HD := Lib.hid hD
  have HJ := Lib.hid hJ
  have HJx := Lib.hid hJx
  have HY := Lib.hid hY
  have H0 := Lib.hid h0
  have cm : W.cell? ⟨bm, 0, none⟩ = some (.pointer (some ⟨mb, 0, none⟩)) := by rw [cell_of_blk hd0.1]; rfl
  have cn : W.cell? ⟨bn, 0, none⟩ = some (.int .i64 k) := by rw [cell_of_blk hd0.2.1]; rfl
  have c2 : W.cell? ⟨mb, 2, none⟩ = some (.slice a n c) := by rw [cell_of_blk (blk_bels hd0.2.2 hB)]; rfl
  have hNc : N ≤ c := by omega
  clear hD hJ hJx hY h0 hd0 hN hB hsl hrr hx hn
  refine callsIn_of_wp Try.func49 rfl trivial ?_
  simp only [Try.ntmps49, List.size_toArray, List.length_cons, List.length_nil, Nat.reduceAdd, Nat.reduceSub, Array.replicate_succ, Array.replicate_zero, List.push_toArray, List.append_toArray, List.nil_append, List.cons_append]
  gi_wp2_with fail
  refine wpIn_wide.2 (wp_scope_straight ((wpIn_wide (n := 0)).1 (wpIn_seq (wpIn_label ?_))))
  gi_wp2_with fail
  refine wpIn_wide.2 ?_
  refine wp_region_held_drew (S := fun V' => Hid (Below W.heap.size W V')) (by kernel_rfl) (Lib.hid ((Below.refl _ _).drew)) (fun hS0 => ?_)
  refine wpAnyH_take (i := 0) (oi := { dst := some 8, op := Op.load 25 (Operand.tmp 1), type := 25, pos := "flat.go:75", after := #[], guard := none }) (v := ?_) rfl (by kernel_rfl) (by kernel_rfl) (by kernel_rfl) (fun _ _ _ h => h) (Or.inl ⟨by rfl, ?hy1⟩) hS0 ?_
  case hy1 => (intro V hSw; (try dsimp only at hSw); have q0 := grow_cellO hSw.out (block_lt_of_cell cm) cm; have q1 := grow_cellO hSw.out (block_lt_of_cell cn) cn; have q2 := grow_cellO hSw.out (block_lt_of_cell c2) c2; clear hSw; go_simp; try with_reducible rfl)
  try simp only [Act.put, List.setIfInBounds_toArray, List.set_cons_zero, List.set_cons_succ]
  refine wpAnyH_take (i := 1) (oi := { dst := some 9, op := Op.nilCheck (Operand.tmp 8), type := 0, pos := "flat.go:75", after := #[{ on := 0, ground := Ground.data }], guard := none }) (v := ?_) rfl (by kernel_rfl) (by kernel_rfl) (by kernel_rfl) (fun _ _ _ h => h) (Or.inl ⟨by rfl, ?hy2⟩) hS0 ?_
  case hy2 => (intro V hSw; (try dsimp only at hSw); clear hSw; go_simp; try with_reducible rfl)
  try simp only [Act.put, List.setIfInBounds_toArray, List.set_cons_zero, List.set_cons_succ]
  refine wpAnyH_take (i := 2) (oi := { dst := some 10, op := Op.fieldAddr 78 (Operand.tmp 9) 2, type := 0, pos := "flat.go:75", after := #[{ on := 1, ground := Ground.data }], guard := none }) (v := ?_) rfl (by kernel_rfl) (by kernel_rfl) (by kernel_rfl) (fun _ _ _ h => h) (Or.inl ⟨by rfl, ?hy3⟩) hS0 ?_
  case hy3 => (intro V hSw; (try dsimp only at hSw); clear hSw; go_simp; try with_reducible rfl)
  try simp only [Act.put, List.setIfInBounds_toArray, List.set_cons_zero, List.set_cons_succ]
  refine wpAnyH_take (i := 3) (oi := { dst := some 11, op := Op.load 22 (Operand.tmp 10), type := 22, pos := "flat.go:75", after := #[{ on := 2, ground := Ground.data }], guard := none }) (v := ?_) rfl (by kernel_rfl) (by kernel_rfl) (by kernel_rfl) (fun _ _ _ h => h) (Or.inl ⟨by rfl, ?hy4⟩) hS0 ?_
  case hy4 => (intro V hSw; (try dsimp only at hSw); have q0 := grow_cellO hSw.out (block_lt_of_cell cm) cm; have q1 := grow_cellO hSw.out (block_lt_of_cell cn) cn; have q2 := grow_cellO hSw.out (block_lt_of_cell c2) c2; clear hSw; go_simp; try with_reducible rfl)
  try simp only [Act.put, List.setIfInBounds_toArray, List.set_cons_zero, List.set_cons_succ]
  refine wpAnyH_take (i := 4) (oi := { dst := some 12, op := Op.load 25 (Operand.tmp 1), type := 25, pos := "flat.go:75", after := #[], guard := none }) (v := ?_) rfl (by kernel_rfl) (by kernel_rfl) (by kernel_rfl) (fun _ _ _ h => h) (Or.inl ⟨by rfl, ?hy5⟩) hS0 ?_
  case hy5 => (intro V hSw; (try dsimp only at hSw); have q0 := grow_cellO hSw.out (block_lt_of_cell cm) cm; have q1 := grow_cellO hSw.out (block_lt_of_cell cn) cn; have q2 := grow_cellO hSw.out (block_lt_of_cell c2) c2; clear hSw; go_simp; try with_reducible rfl)
  try simp only [Act.put, List.setIfInBounds_toArray, List.set_cons_zero, List.set_cons_succ]
  refine wpAnyH_take (i := 5) (oi := { dst := some 13, op := Op.load 3 (Operand.tmp 2), type := 3, pos := "flat.go:75", after := #[], guard := none }) (v := ?_) rfl (by kernel_rfl) (by kernel_rfl) (by kernel_rfl) (fun _ _ _ h => h) (Or.inl ⟨by rfl, ?hy6⟩) hS0 ?_
  case hy6 => (intro V hSw; (try dsimp only at hSw); have q0 := grow_cellO hSw.out (block_lt_of_cell cm) cm; have q1 := grow_cellO hSw.out (block_lt_of_cell cn) cn; have q2 := grow_cellO hSw.out (block_lt_of_cell c2) c2; clear hSw; go_simp; try with_reducible rfl)
  try simp only [Act.put, List.setIfInBounds_toArray, List.set_cons_zero, List.set_cons_succ]
  refine wpAnyH_take (i := 9) (oi := { dst := some 17, op := Op.move (Operand.const (Value.int IntKind.i64 0)), type := 3, pos := "flat.go:75", after := #[], guard := none }) (v := ?_) rfl (by kernel_rfl) (by kernel_rfl) (by kernel_rfl) (fun _ _ _ h => h) (Or.inl ⟨by rfl, ?hy7⟩) hS0 ?_
  case hy7 => (intro V hSw; (try dsimp only at hSw); clear hSw; go_simp; try with_reducible rfl)
  try simp only [Act.put, List.setIfInBounds_toArray, List.set_cons_zero, List.set_cons_succ]
  refine wpAnyH_ready (rs := [6]) (by kernel_rfl) (by simp) (AllReadyH.cons rfl (fun K hK => ?_) AllReadyH.nil)
  go_simp
  refine (HCl.out _ hS0.out).mono ?_
  rintro e wv8 ⟨rfl, hv8⟩
  have hS8 := Lib.hid (hS0.out.trans (hv8.mono hS0.out.size))
  clear hv8
  refine hK.out _ _ hS8 (fun _ => ?_)
  clear hK K
  try simp only [Act.put, List.setIfInBounds_toArray, List.set_cons_zero, List.set_cons_succ]
  refine wpAnyH_take (i := 7) (oi := { dst := some 15, op := Op.slice 22 (Operand.tmp 11) none (some (Operand.tmp 14)) none, type := 22, pos := "flat.go:75", after := #[{ on := 3, ground := Ground.data }, { on := 6, ground := Ground.data }], guard := none }) (v := ?_) rfl (by kernel_rfl) (by kernel_rfl) (by kernel_rfl) (fun _ _ _ h => h) (Or.inl ⟨by rfl, ?hy9⟩) hS8 ?_
  case hy9 => (intro V hSw; (try dsimp only at hSw); clear hSw; go_simp; try with_reducible rfl)
  try simp only [Act.put, List.setIfInBounds_toArray, List.set_cons_zero, List.set_cons_succ]
  refine wpAnyH_take (i := 8) (oi := { dst := some 16, op := Op.call { callee := Callee.builtin Builtin.len, args := #[Operand.tmp 15], argTypes := #[22] }, type := 3, pos := "flat.go:75", after := #[{ on := 7, ground := Ground.data }], guard := none }) (v := ?_) rfl (by kernel_rfl) (by kernel_rfl) (by kernel_rfl) (fun _ _ _ h => h) (Or.inl ⟨by rfl, ?hy10⟩) hS8 ?_
  case hy10 => (intro V hSw; (try dsimp only at hSw); clear hSw; go_simp; try with_reducible rfl)
  try simp only [Act.put, List.setIfInBounds_toArray, List.set_cons_zero, List.set_cons_succ]
  refine wpAnyH_done (by kernel_rfl) ?_ _
  skip
  have Hj0 := Lib.hid (HJ.out 0 _ _ H0.out (below_none hS8.out))
  clear H0 cm cn c2
  gi_wp2_with fail
  gi_loopg [17] (N + 1) (fun g iv wr => ∃ i : Nat, i ≤ N ∧ g = N - i + 1 ∧ iv = .int .i64 i ∧ J (flatO rows i).length wr)
  case atStart => exact ⟨0, by omega, rfl, rfl, Hj0.out⟩
  case round =>
    obtain ⟨wo, rfl⟩ : ∃ wo : World, wo = wr := ⟨_, rfl⟩
    obtain ⟨i, hi, rfl, rfl, hj⟩ := hrel
    have Hj := Lib.hid hj
    clear hj Hj0
    by_cases hiN : i < N
    · have hni : (i : Int) < (N : Int) := by omega
      obtain ⟨be, off, rfl, hcell⟩ := Hx.out (by omega)
      obtain ⟨r, hrk⟩ : ∃ r, rows[i]? = some r := ⟨_, List.getElem?_eq_getElem (by rw [← Hn.out]; omega)⟩
      have d0 : wo.cell? ⟨be, off + i, none⟩ = some r.1 := by
        have := hcell i r hrk 0 _ rfl
        rw [Nat.mul_one, Nat.add_zero] at this
        exact ((HD.out _ _ Hj.out).2.2.cell (block_lt_of_cell this)).trans this
      have hro := Hrr.out r (List.mem_of_getElem? hrk)
      have Htk := Lib.hid (flatO_succ hrk)
      have Hat := Lib.hid (fun (j : Nat) (x : Bo) (hx : r.2[j]? = some x) => flatO_at hiN hrk hx)
      obtain ⟨rv, l⟩ := r
      dsimp only at d0 hro Htk Hat
      obtain ⟨ra, rc, rfl, -, -, -⟩ := id hro
      obtain ⟨-, hrc, hrm, hrx⟩ := hro.at
      obtain ⟨m, hm2⟩ : ∃ q, q = l.length := ⟨_, rfl⟩
      rw [← hm2] at d0 hrc hrx
      have Hrx := Lib.hid hrx
      have Hm2 := Lib.hid hm2
      clear hcell hrk hro hrx hm2
      gi_wp2_with fail
      gi_loopg [23] (m + 1) (fun g jv wr => ∃ j : Nat, j ≤ m ∧ g = m - j + 1 ∧ jv = .int .i64 j ∧ J ((flatO rows i).length + j) wr)
      case atStart => exact ⟨0, by omega, rfl, rfl, Hj.out⟩
      case round =>
        obtain ⟨wq, rfl⟩ : ∃ wq : World, wq = wr := ⟨_, rfl⟩
        obtain ⟨j, hj, rfl, rfl, hj2⟩ := hrel
        have Hj2 := Lib.hid hj2
        clear hj2 Hj d0
        by_cases hjm : j < m
        · obtain ⟨bo, of2, rfl, hce2⟩ := Hrx.out (by omega)
          obtain ⟨x, hxj⟩ : ∃ x, l[j]? = some x := ⟨_, List.getElem?_eq_getElem (by rw [← Hm2.out]; exact hjm)⟩
          obtain ⟨e0, e1, e2⟩ := IsOs.row (w := wq) (fun i x hi j y hj => ((HD.out _ _ Hj2.out).2.2.cell (block_lt_of_cell (hce2 i x hi j y hj))).trans (hce2 i x hi j y hj)) hxj
          have hte := opEnc_at (Hat.out j x hxj)
          have hlt := (List.getElem?_eq_some_iff.1 (Hat.out j x hxj)).1
          have hJ1 := fun o => HJ.out _ wq (wq.alloc o) Hj2.out (World.grownBy_alloc _ _ _)
          have hY := fun o => HY.out _ (wq.alloc o) hlt (hJ1 o)
          rw [hte] at hY
          obtain ⟨kd, u, val⟩ := x
          dsimp only at e0 e1 e2 hY
          have HYo := Lib.hid hY
          have Hlt := Lib.hid hlt
          clear hY hJ1 hte hxj hce2 hlt
          have hY : YieldAt Fence.wide 0 Try.prog yl #[.agg #[.int .i64 kd, .string u, .string val]] (wq.alloc (.cells #[.int .i64 kd, .string u, .string val] 40)) _ := HYo.out _
          obtain ⟨fn, tmps, assign, body, hy, hR⟩ := hY
          clear HYo
          gi_wp2
          refine ⟨rfl, hR.mono ?_⟩
          rintro e W3 (⟨rfl, hJ3⟩ | ⟨rfl, hJx3⟩)
          · have HJ3 := Lib.hid hJ3
            clear hJ3 hy hR
            gi_wp2
            gi_roundg (m - (j + 1) + 1)
            case measure => omega
            case rel => exact ⟨j + 1, by omega, rfl, by go_num, HJ3.out⟩
          · have HJx3 := Lib.hid hJx3
            clear hJx3 hy hR
            gi_wp2
            rw [Exit.noGoto_normal]
            exact bodyPost_end (results_none rfl _ _ _) rfl ⟨⟨_, rfl⟩, .inr ⟨_, Hlt.out, HJx3.out⟩⟩
        · obtain rfl : j = m := by omega
          have hnx : J (flatO rows (i + 1)).length wq := by rw [Htk.out, List.length_append, ← Hm2.out]; exact Hj2.out
          have Hnx := Lib.hid hnx
          clear hnx
          gi_wp2
          gi_roundg (N - (i + 1) + 1)
          case measure => omega
          case rel => exact ⟨i + 1, by omega, rfl, by go_num, Hnx.out⟩
    · obtain rfl : i = N := by omega
      gi_wp2
      rw [Exit.noGoto_normal]
      exact bodyPost_end (results_none rfl _ _ _) rfl ⟨⟨_, rfl⟩, .inl Hj.out⟩
end Go.Proofs.Ytbnodgoccmhjkaa.Tithe
