/- Tables' metas and versions in memory; the iterator of a version's tables. -/
import Derived.Test.YthjjelomlgmllaaRangeS
import Derived.Test.YthjjelomlgmllaaLevCore
import Derived.Test.YthjjelomlgmllaaOwnMore
import Derived.Sort.LoopGhostIn
import Derived.WalkMore
namespace Go.Proofs.Ythjjelomlgmllaa.Tithe
open Go.RowKit Go.Sort Go.Shelf
set_option linter.unusedVariables false
set_option maxRecDepth 100000
/-- a table's meta -/
structure Mt where
  z : Int
  n : Int
  a : Ky
  b : Ky
  refs : List (Int × Int)
abbrev Mr := Mt × Value
def Mt.nil : Mt := ⟨0, 0, Ky.nil, Ky.nil, []⟩
def Mr.nil : Mr := (Mt.nil, .slice none 0 0)
def mrC (r : Mr) : List Value := [.int .i64 r.1.z, .int .i64 r.1.n, .string r.1.a.u, .int .i64 r.1.a.s, .int .i64 r.1.a.k, .string r.1.b.u, .int .i64 r.1.b.s, .int .i64 r.1.b.k, r.2]
theorem mrC_len (r : Mr) : (mrC r).length = 9 := rfl
def IsMr (w : World) (v : Value) (l : List Mr) : Prop := IsSl mrC 9 w v l ∧ ∀ r ∈ l, IsRr w r.2 r.1.refs
theorem IsMr.below {w w' : World} {v : Value} {l : List Mr} (h : IsMr w v l) (hb : Below w.heap.size w w') : IsMr w' v l := ⟨h.1.below hb, fun r hr => (h.2 r hr).below hb⟩
/-- a version: four slices of metas -/
structure Vn where
  v : Nat → Value
  l : Nat → List Mr
def Vn.cells (V : Vn) : Array Value := #[V.v 0, V.v 1, V.v 2, V.v 3]
def IsVn (w : World) (V : Vn) : Prop := ∀ n, n < 4 → IsMr w (V.v n) (V.l n)
theorem IsVn.below {w w' : World} {V : Vn} (h : IsVn w V) (hb : Below w.heap.size w w') : IsVn w' V := fun n hn => (h n hn).below hb
def tabs (l : Nat → List Mr) : Nat → List (Nat × Mr)
  | 0 => []
  | n + 1 => tabs l n ++ (l n).map fun r => (n, r)
theorem tabs_mono (l : Nat → List Mr) (n : Nat) : ∀ d, ∃ t, tabs l (n + d) = tabs l n ++ t
  | 0 => ⟨[], by simp⟩
  | d + 1 => by
    obtain ⟨t, ht⟩ := tabs_mono l n d
    exact ⟨t ++ (l (n + d)).map fun r => (n + d, r), by show tabs l (n + d) ++ ((l (n + d)).map fun r => (n + d, r)) = _; rw [ht, List.append_assoc]⟩
theorem tabs_at (l : Nat → List Mr) {n i : Nat} {r : Mr} (hn : n < 4) (h : (l n)[i]? = some r) : (tabs l 4)[(tabs l n).length + i]? = some (n, r) := by
  obtain ⟨t, ht⟩ := tabs_mono l (n + 1) (4 - (n + 1))
  rw [show n + 1 + (4 - (n + 1)) = 4 by omega] at ht
  rw [ht]
  show ((tabs l n ++ (l n).map fun r => (n, r)) ++ t)[_]? = _
  rw [List.append_assoc, List.getElem?_append_right (Nat.le_add_right _ _), Nat.add_sub_cancel_left, List.getElem?_append_left (by rw [List.length_map]; exact (List.getElem?_eq_some_iff.1 h).1), List.getElem?_map, h]
  rfl
theorem tabs_succ_len (l : Nat → List Mr) (n : Nat) : (tabs l (n + 1)).length = (tabs l n).length + (l n).length := by
  show (tabs l n ++ _).length = _
  rw [List.length_append, List.length_map]
theorem tabs_mem {l : Nat → List Mr} : ∀ {n : Nat} {p : Nat × Mr}, p ∈ tabs l n → p.1 < n ∧ p.2 ∈ l p.1
  | 0, p, h => by simp [tabs] at h
  | n + 1, p, h => by
    rcases List.mem_append.1 h with h | h
    · have := tabs_mem h
      exact ⟨by omega, this.2⟩
    · obtain ⟨r, hr, rfl⟩ := List.mem_map.1 h
      exact ⟨Nat.lt_succ_self _, hr⟩
theorem tabs_rr {w : World} {V : Vn} (h : IsVn w V) {k : Nat} {p : Nat × Mr} (hp : (tabs V.l 4)[k]? = some p) : IsRr w p.2.2 p.2.1.refs := by
  obtain ⟨h1, h2⟩ := tabs_mem (List.mem_of_getElem? hp)
  exact (h p.1 h1).2 _ h2
theorem tabs_lt {l : Nat → List Mr} {k : Nat} {p : Nat × Mr} (hp : (tabs l 4)[k]? = some p) : p.1 < 4 := (tabs_mem (List.mem_of_getElem? hp)).1
def tabEnc (l : Nat → List Mr) (k : Nat) : Array Value := match (tabs l 4)[k]? with
  | some p => #[.int .i64 (p.1 : Nat), .agg (mrC p.2).toArray]
  | none => #[.int .i64 0, .agg #[]]
theorem tabEnc_size (l : Nat → List Mr) (k : Nat) : (tabEnc l k).size = 2 := by
  unfold tabEnc; split <;> rfl
theorem tabEnc_at (l : Nat → List Mr) {k : Nat} {p : Nat × Mr} (h : (tabs l 4)[k]? = some p) : tabEnc l k = #[.int .i64 (p.1 : Nat), .agg (mrC p.2).toArray] := by
  unfold tabEnc; rw [h]
def AllDat (bx vb : Nat) (V : Vn) (w0 : World) (W : World) : Prop :=
  W.heap[bx]? = some (.cells #[.pointer (some ⟨vb, 0, none⟩)] 140 (0, 0)) ∧ W.heap[vb]? = some (.cells V.cells 61 (0, 0)) ∧ Below w0.heap.size w0 W
theorem index_vn (V : Vn) {n : Nat} (h : n < 4) (W : World) : (Instr.index 59 (.agg #[V.v 0, V.v 1, V.v 2, V.v 3]) (.int .i64 n)).run Try.prog W = .ok (V.v n) W := by
  match n, h with
  | 0, _ => rfl
  | 1, _ => rfl
  | 2, _ => rfl
  | 3, _ => rfl
theorem IsMr.row {w : World} {b off : Nat} {l : List Mr} (h : ∀ i x, l[i]? = some x → ∀ j y, (mrC x)[j]? = some y → w.cell? ⟨b, off + i * 9 + j, none⟩ = some y) {i : Nat} {x : Mr} (hx : l[i]? = some x) :
    w.cell? ⟨b, off + i * 9, none⟩ = some (.int .i64 x.1.z) ∧ w.cell? ⟨b, off + i * 9 + 1, none⟩ = some (.int .i64 x.1.n) ∧ w.cell? ⟨b, off + i * 9 + 2, none⟩ = some (.string x.1.a.u) ∧ w.cell? ⟨b, off + i * 9 + 3, none⟩ = some (.int .i64 x.1.a.s) ∧ w.cell? ⟨b, off + i * 9 + 4, none⟩ = some (.int .i64 x.1.a.k) ∧
    w.cell? ⟨b, off + i * 9 + 5, none⟩ = some (.string x.1.b.u) ∧ w.cell? ⟨b, off + i * 9 + 6, none⟩ = some (.int .i64 x.1.b.s) ∧ w.cell? ⟨b, off + i * 9 + 7, none⟩ = some (.int .i64 x.1.b.k) ∧ w.cell? ⟨b, off + i * 9 + 8, none⟩ = some x.2 :=
  ⟨h i x hx 0 _ rfl, h i x hx 1 _ rfl, h i x hx 2 _ rfl, h i x hx 3 _ rfl, h i x hx 4 _ rfl, h i x hx 5 _ rfl, h i x hx 6 _ rfl, h i x hx 7 _ rfl, h i x hx 8 _ rfl⟩
theorem all_any (vb : Nat) (w : World) :
    Calls Try.prog 63 #[.pointer (some ⟨vb, 0, none⟩)] w fun e w' => e = .returned (.func (.func 83) #[] #[.pointer (some ⟨w.heap.size, 0, none⟩)]) ∧ w' = w.alloc (.cells #[.pointer (some ⟨vb, 0, none⟩)] 140) := by
  go_enter Try.func63, Try.ntmps63
  go_wp2
  go_ret
  exact ⟨rfl, rfl⟩
attribute [local go_sem] Oper.semAt_some
set_option maxHeartbeats 1600000 in
theorem all_iter (bx vb : Nat) (V : Vn) (w0 : World) (h : IsVn w0 V) : IterOkS Try.prog 83 #[.pointer (some ⟨bx, 0, none⟩)] (tabEnc V.l) (tabs V.l 4).length (AllDat bx vb V w0) := by
  intro yl J Jx W hD hJ hJx hY h0
  have H := Lib.hid h
  have HD := Lib.hid hD
  have HJ := Lib.hid hJ
  have HJx := Lib.hid hJx
  have HY := Lib.hid hY
  have H0 := Lib.hid h0
  have hd0 := hD 0 W h0
  have cb : W.cell? ⟨bx, 0, none⟩ = some (.pointer (some ⟨vb, 0, none⟩)) := by rw [cell_of_blk hd0.1]; rfl
  have c0 : W.cell? ⟨vb, 0, none⟩ = some (V.v 0) := by rw [cell_of_blk hd0.2.1]; rfl
  have c1 : W.cell? ⟨vb, 1, none⟩ = some (V.v 1) := by rw [cell_of_blk hd0.2.1]; rfl
  have c2 : W.cell? ⟨vb, 2, none⟩ = some (V.v 2) := by rw [cell_of_blk hd0.2.1]; rfl
  have c3 : W.cell? ⟨vb, 3, none⟩ = some (V.v 3) := by rw [cell_of_blk hd0.2.1]; rfl
  clear h hD hJ hJx hY h0 hd0
  refine callsIn_of_wp Try.func83 rfl trivial ?_
  simp only [Try.ntmps83, List.size_toArray, List.length_cons, List.length_nil, Nat.reduceAdd, Nat.reduceSub, Array.replicate_succ, Array.replicate_zero, List.push_toArray, List.append_toArray, List.nil_append, List.cons_append]
  gi_wp2_with fail
  refine wpIn_wide.2 (wp_scope_straight ((wpIn_wide (n := 0)).1 (wpIn_seq (wpIn_label ?_))))
  gi_wp2_with fail
  clear cb c0 c1 c2 c3
  gi_loopg [11] 5 (fun g iv wr => ∃ n : Nat, n ≤ 4 ∧ g = 5 - n ∧ iv = .int .i64 n ∧ J (tabs V.l n).length wr)
  case atStart => exact ⟨0, by omega, rfl, rfl, H0.out⟩
  case round =>
    obtain ⟨wo, rfl⟩ : ∃ wo : World, wo = wr := ⟨_, rfl⟩
    obtain ⟨n, hn, rfl, rfl, hj⟩ := hrel
    have Hj := Lib.hid hj
    clear hj H0
    by_cases hn4 : n < 4
    · have hix := fun W => index_vn V hn4 W
      have hni : (n : Int) < 4 := by omega
      obtain ⟨⟨a, c, hv, hc1, hm1, hx1⟩, hrr⟩ := H.out n hn4
      rw [hv] at hix
      have Hx1 := Lib.hid hx1
      have Hrr := Lib.hid hrr
      obtain ⟨m, hm⟩ : ∃ m, m = (V.l n).length := ⟨_, rfl⟩
      rw [← hm] at hix hc1
      replace hm1 : c ≤ 9223372036854775807 := by unfold maxLen at hm1; omega
      have Hm := Lib.hid hm
      clear hv hx1 hrr hm
      gi_wp2_with fail
      gi_loopg [17] (m + 1) (fun g jv wr => ∃ i : Nat, i ≤ m ∧ g = m - i + 1 ∧ jv = .int .i64 i ∧ J ((tabs V.l n).length + i) wr)
      case atStart => exact ⟨0, by omega, rfl, rfl, Hj.out⟩
      case round =>
        obtain ⟨wq, rfl⟩ : ∃ wq : World, wq = wr := ⟨_, rfl⟩
        obtain ⟨i, hi, rfl, rfl, hj2⟩ := hrel
        have Hj2 := Lib.hid hj2
        clear hj2 Hj
        by_cases him : i < m
        · obtain ⟨b, off, rfl, hcell⟩ := Hx1.out (by rw [← List.length_pos_iff]; have := Hm.out; omega)
          obtain ⟨r, hr⟩ : ∃ r, (V.l n)[i]? = some r := ⟨_, List.getElem?_eq_getElem (by rw [← Hm.out]; exact him)⟩
          have hrow := fun (W : World) (hW : Below w0.heap.size w0 W) => IsMr.row (w := W) (fun i x hi j y hj => (hW.cell (block_lt_of_cell (hcell i x hi j y hj))).trans (hcell i x hi j y hj)) hr
          obtain ⟨d0, d1, d2, d3, d4, d5, d6, d7, d8⟩ := hrow wq (HD.out _ _ Hj2.out).2.2
          obtain ⟨ra, rc, hrv, -, -, -⟩ := Hrr.out r (List.mem_of_getElem? hr)
          have hta := tabs_at V.l hn4 hr
          have hte := tabEnc_at V.l hta
          have hlt := (List.getElem?_eq_some_iff.1 hta).1
          have hJ1 := fun o => HJ.out _ wq (wq.alloc o) Hj2.out (World.grownBy_alloc _ _ _)
          have hY := fun o => HY.out _ (wq.alloc o) hlt (hJ1 o)
          rw [hte] at hY
          obtain ⟨⟨z, n', ⟨au, asq, ak⟩, ⟨bu, bsq, bk⟩, refs⟩, vr⟩ := r
          dsimp only at d0 d1 d2 d3 d4 d5 d6 d7 d8 hrv
          generalize refs.length = rn at *
          subst hrv
          have HYo := Lib.hid hY
          have Hlt := Lib.hid hlt
          clear hY hJ1 hte hta hr hrow hcell hlt
          have hY : YieldAt Fence.wide 0 Try.prog yl #[.int .i64 (n : Nat), .agg #[.int .i64 z, .int .i64 n', .string au, .int .i64 asq, .int .i64 ak, .string bu, .int .i64 bsq, .int .i64 bk, .slice ra rn rc]] (wq.alloc (.cells #[.int .i64 z, .int .i64 n', .string au, .int .i64 asq, .int .i64 ak, .string bu, .int .i64 bsq, .int .i64 bk, .slice ra rn rc] 78)) _ := HYo.out _
          obtain ⟨fn, tmps, assign, body, hy, hR⟩ := hY
          clear HYo
          gi_wp2
          refine ⟨rfl, hR.mono ?_⟩
          rintro e W3 (⟨rfl, hJ3⟩ | ⟨rfl, hJx3⟩)
          · have HJ3 := Lib.hid hJ3
            clear hJ3 hy hR
            gi_wp2
            gi_roundg (m - (i + 1) + 1)
            case measure => omega
            case rel => exact ⟨i + 1, by omega, rfl, by go_num, HJ3.out⟩
          · have HJx3 := Lib.hid hJx3
            clear hJx3 hy hR
            gi_wp2
            rw [Exit.noGoto_normal]
            exact bodyPost_end (results_none rfl _ _ _) rfl ⟨⟨_, rfl⟩, .inr ⟨_, Hlt.out, HJx3.out⟩⟩
        · obtain rfl : i = m := by omega
          have hnx : J (tabs V.l (n + 1)).length wq := by rw [tabs_succ_len, ← Hm.out]; exact Hj2.out
          have Hnx := Lib.hid hnx
          clear hnx
          gi_wp2
          gi_roundg (5 - (n + 1))
          case measure => omega
          case rel => exact ⟨n + 1, by omega, rfl, by go_num, Hnx.out⟩
    · obtain rfl : n = 4 := by omega
      gi_wp2
      rw [Exit.noGoto_normal]
      exact bodyPost_end (results_none rfl _ _ _) rfl ⟨⟨_, rfl⟩, .inl Hj.out⟩
end Go.Proofs.Ythjjelomlgmllaa.Tithe
