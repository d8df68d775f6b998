/- pick.neighbours: its iterator. -/
import Derived.Test.YtcmndnglmpkpdaaDoorPickPress
import Derived.Stop.RegionWithIn
namespace Go.Proofs.YtcmndnglmpkpdaaDoor.Tithe
open Go.RowKit Go.Sort Go.Shelf
set_option linter.unusedVariables false
set_option linter.unusedSimpArgs false
set_option maxRecDepth 100000
theorem IsDz.row1 {w : World} {b off : Nat} {l : List Int} (h : ∀ i x, l[i]? = some x → ∀ j y, (dzC x)[j]? = some y → w.cell? ⟨b, off + i * 1 + j, none⟩ = some y) {i : Nat} {x : Int} (hx : l[i]? = some x) : w.cell? ⟨b, off + i, none⟩ = some (.int .i64 x) := by
  have := h i x hx 0 _ rfl
  rw [Nat.mul_one] at this
  exact this
theorem drew_blk {W : World} {b : Nat} {x : Obj} (h : W.heap[b]? = some x) : W.drew.heap[b]? = some x := h
/-- the tables side by side of a level -/
def nbL (n : Nat) (rows : List Mr) : List (Nat × Mr × Mr) := if n = 0 then [] else (List.range (rows.length - 1)).map fun i => (n, rows.getD i Mr.nil, rows.getD (i + 1) Mr.nil)
def nbs (l : Nat → List Mr) : Nat → List (Nat × Mr × Mr)
  | 0 => []
  | n + 1 => nbs l n ++ nbL n (l n)
theorem nbs_mono (l : Nat → List Mr) (n : Nat) : ∀ d, ∃ t, nbs l (n + d) = nbs l n ++ t
  | 0 => ⟨[], by simp⟩
  | d + 1 => by
    obtain ⟨t, ht⟩ := nbs_mono l n d
    exact ⟨t ++ nbL (n + d) (l (n + d)), by show nbs l (n + d) ++ nbL (n + d) (l (n + d)) = _; rw [ht, List.append_assoc]⟩
theorem nbL_len (n : Nat) (rows : List Mr) : (nbL n rows).length = if n = 0 then 0 else rows.length - 1 := by
  unfold nbL
  split
  · rfl
  · rw [List.length_map, List.length_range]
theorem nbL_at {n i : Nat} {rows : List Mr} {x y : Mr} (hn : n ≠ 0) (hx : rows[i]? = some x) (hy : rows[i + 1]? = some y) : (nbL n rows)[i]? = some (n, x, y) := by
  unfold nbL
  have hl := (List.getElem?_eq_some_iff.1 hy).1
  rw [if_neg hn, List.getElem?_map, List.getElem?_range (by omega)]
  show some (n, rows.getD i Mr.nil, rows.getD (i + 1) Mr.nil) = _
  rw [List.getD_eq_getElem?_getD, List.getD_eq_getElem?_getD, hx, hy]; rfl
theorem nbs_at (l : Nat → List Mr) {n i : Nat} {x y : Mr} (hn4 : n < 4) (hn : n ≠ 0) (hx : (l n)[i]? = some x) (hy : (l n)[i + 1]? = some y) : (nbs l 4)[(nbs l n).length + i]? = some (n, x, y) := by
  obtain ⟨t, ht⟩ := nbs_mono l (n + 1) (4 - (n + 1))
  rw [show n + 1 + (4 - (n + 1)) = 4 by omega] at ht
  have h := nbL_at hn hx hy
  rw [ht]
  show ((nbs l n ++ nbL n (l n)) ++ t)[_]? = _
  rw [List.append_assoc, List.getElem?_append_right (Nat.le_add_right _ _), Nat.add_sub_cancel_left, List.getElem?_append_left (List.getElem?_eq_some_iff.1 h).1, h]
theorem nbs_succ_len (l : Nat → List Mr) (n : Nat) : (nbs l (n + 1)).length = (nbs l n).length + if n = 0 then 0 else (l n).length - 1 := by
  show (nbs l n ++ _).length = _
  rw [List.length_append, nbL_len]
theorem nbs_mem {l : Nat → List Mr} : ∀ {n : Nat} {p : Nat × Mr × Mr}, p ∈ nbs l n → p.1 < n ∧ 0 < p.1 ∧ p.2.1 ∈ l p.1 ∧ p.2.2 ∈ l p.1
  | 0, p, h => by simp [nbs] at h
  | n + 1, p, h => by
    rcases List.mem_append.1 h with h | h
    · have := nbs_mem h
      exact ⟨by omega, this.2⟩
    · unfold nbL at h
      split at h
      · cases h
      · rename_i hn
        obtain ⟨i, hi, rfl⟩ := List.mem_map.1 h
        rw [List.mem_range] at hi
        have g : ∀ j (hj : j < (l n).length), (l n).getD j Mr.nil ∈ l n := fun j hj => by rw [List.getD_eq_getElem?_getD, List.getElem?_eq_getElem hj]; exact List.getElem_mem hj
        exact ⟨Nat.lt_succ_self _, by omega, g i (by omega), g (i + 1) (by omega)⟩
def nbEnc (l : Nat → List Mr) (k : Nat) : Array Value := match (nbs l 4)[k]? with
  | some p => #[.int .i64 (p.1 : Nat), .agg (mrC p.2.1 ++ mrC p.2.2).toArray]
  | none => #[.int .i64 0, .agg #[]]
theorem nbEnc_size (l : Nat → List Mr) (k : Nat) : (nbEnc l k).size = 2 := by
  unfold nbEnc; split <;> rfl
theorem nbEnc_at (l : Nat → List Mr) {k : Nat} {p : Nat × Mr × Mr} (h : (nbs l 4)[k]? = some p) : nbEnc l k = #[.int .i64 (p.1 : Nat), .agg (mrC p.2.1 ++ mrC p.2.2).toArray] := by
  unfold nbEnc; rw [h]
theorem nb_any (vb : Nat) (w : World) :
    Calls Tryd.prog 40 #[.pointer (some ⟨vb, 0, none⟩)] w fun e w' => e = .returned (.func (.func 49) #[] #[.pointer (some ⟨w.heap.size, 0, none⟩)]) ∧ w' = w.alloc (.cells #[.pointer (some ⟨vb, 0, none⟩)] 101) := by
  go_enter Tryd.func40, Tryd.ntmps40
  go_wp2
  go_ret
  exact ⟨rfl, rfl⟩
theorem grownBy_drew (W : World) : W.grownBy W.drew none := ⟨rfl, rfl, rfl, Nat.le_refl _, fun _ _ _ => rfl⟩
theorem yb_one {e : Ending} {P Q : Prop} (h : (e = .returned (.bool true) ∧ P) ∨ (e = .returned (.bool false) ∧ Q)) : ∃ b, e = .returned (.bool b) ∧ (match b with | true => P | false => Q) := by
  rcases h with ⟨rfl, h⟩ | ⟨rfl, h⟩
  · exact ⟨true, rfl, h⟩
  · exact ⟨false, rfl, h⟩
attribute [local go_sem] Oper.semAt_some
set_option maxHeartbeats 3200000 in
theorem nb_iter (bx vb : Nat) (V : Vn) (w0 : World) (h : IsVn w0 V) (hl4 : ∀ n, n < 4 → (V.l n).length ≤ 100000) : IterOkS Tryd.prog 49 #[.pointer (some ⟨bx, 0, none⟩)] (nbEnc V.l) (nbs V.l 4).length (AllDat bx vb V w0) := by
  intro yl J Jx W hD hJ hJx hY h0
  have H := Lib.hid h
  have Hl4 := Lib.hid hl4
  have HD := Lib.hid hD
  have HJ := Lib.hid hJ
  have HJx := Lib.hid hJx
  have HY := Lib.hid hY
  have H0 := Lib.hid h0
  have hd0 := hD 0 W h0
  have cb : W.cell? ⟨bx, 0, none⟩ = some (.pointer (some ⟨vb, 0, none⟩)) := by rw [cell_of_blk hd0.1]; rfl
  have c0 : W.cell? ⟨vb, 0, none⟩ = some (V.v 0) := by rw [cell_of_blk hd0.2.1]; rfl
  have c1 : W.cell? ⟨vb, 1, none⟩ = some (V.v 1) := by rw [cell_of_blk hd0.2.1]; rfl
  have c2 : W.cell? ⟨vb, 2, none⟩ = some (V.v 2) := by rw [cell_of_blk hd0.2.1]; rfl
  have c3 : W.cell? ⟨vb, 3, none⟩ = some (V.v 3) := by rw [cell_of_blk hd0.2.1]; rfl
  clear h hD hJ hJx hY h0 hd0 hl4
  refine callsIn_of_wp Tryd.func49 rfl trivial ?_
  simp only [Tryd.ntmps49, List.size_toArray, List.length_cons, List.length_nil, Nat.reduceAdd, Nat.reduceSub, Array.replicate_succ, Array.replicate_zero, List.push_toArray, List.append_toArray, List.nil_append, List.cons_append]
  gi_wp2_with fail
  clear cb c0 c1 c2 c3
  gi_loopg [10] 5 (fun g iv wr => ∃ n : Nat, n ≤ 4 ∧ g = 5 - n ∧ iv = .int .i64 n ∧ J (nbs V.l n).length wr)
  case atStart => exact ⟨0, by omega, rfl, rfl, H0.out⟩
  case round =>
    obtain ⟨wo, rfl⟩ : ∃ wo : World, wo = wr := ⟨_, rfl⟩
    obtain ⟨n, hn, rfl, rfl, hj⟩ := hrel
    have Hj := Lib.hid hj
    clear hj H0
    by_cases hn4 : n < 4
    · have hix := fun W => index_vn V hn4 W
      have hni : (n : Int) < 4 := by omega
      obtain ⟨⟨a, c, hv, hc1, hm1, hx1⟩, hrr⟩ := H.out n hn4
      rw [hv] at hix
      have Hx1 := Lib.hid hx1
      have Hrr := Lib.hid hrr
      obtain ⟨m, hm⟩ : ∃ m, m = (V.l n).length := ⟨_, rfl⟩
      rw [← hm] at hix hc1
      replace hm1 : c ≤ 9223372036854775807 := by unfold maxLen at hm1; omega
      have hm5 : m ≤ 100000 := by rw [hm]; exact Hl4.out n hn4
      have Hm := Lib.hid hm
      clear hv hx1 hrr hm
      gi_wp2_with fail
      gi_loopg [5] (m + 1) (fun g jv wr => ∃ i : Nat, 1 ≤ i ∧ (n = 0 → i = 1) ∧ (i = 1 ∨ i ≤ m) ∧ g = m + 2 - i ∧ jv = .int .i64 i ∧ J ((nbs V.l n).length + (i - 1)) wr)
      case atStart => exact ⟨1, by omega, fun _ => rfl, .inl rfl, by omega, rfl, Hj.out⟩
      case round =>
        obtain ⟨wq, rfl⟩ : ∃ wq : World, wq = wr := ⟨_, rfl⟩
        obtain ⟨i, hi1, hi0, him, rfl, rfl, hj2⟩ := hrel
        have Hj2 := Lib.hid hj2
        clear hj2 Hj
        by_cases hyes : 0 < n ∧ i < m
        · obtain ⟨hn0, hlt⟩ := hyes
          obtain ⟨p, rfl⟩ : ∃ p, i = p + 1 := ⟨i - 1, by omega⟩
          obtain ⟨b, off, rfl, hcell⟩ := Hx1.out (by rw [← List.length_pos_iff]; have := Hm.out; omega)
          obtain ⟨x, hx⟩ : ∃ r, (V.l n)[p]? = some r := ⟨_, List.getElem?_eq_getElem (by rw [← Hm.out]; omega)⟩
          obtain ⟨y, hy⟩ : ∃ r, (V.l n)[p + 1]? = some r := ⟨_, List.getElem?_eq_getElem (by rw [← Hm.out]; omega)⟩
          have hrow := fun (W : World) (hW : Below w0.heap.size w0 W) => IsMr.row (w := W) (fun i x hi j y hj => (hW.cell (block_lt_of_cell (hcell i x hi j y hj))).trans (hcell i x hi j y hj)) hx
          have hrow2 := fun (W : World) (hW : Below w0.heap.size w0 W) => IsMr.row (w := W) (fun i x hi j y hj => (hW.cell (block_lt_of_cell (hcell i x hi j y hj))).trans (hcell i x hi j y hj)) hy
          obtain ⟨d0, d1, d2, d3, d4, d5, d6, d7, d8⟩ := hrow wq (HD.out _ _ Hj2.out).2.2
          obtain ⟨e0, e1, e2, e3, e4, e5, e6, e7, e8⟩ := hrow2 wq (HD.out _ _ Hj2.out).2.2
          obtain ⟨xra, xrc, hxv, -, -, -⟩ := Hrr.out x (List.mem_of_getElem? hx)
          obtain ⟨yra, yrc, hyv, -, -, -⟩ := Hrr.out y (List.mem_of_getElem? hy)
          have hta := nbs_at V.l hn4 (by omega) hx hy
          have hte := nbEnc_at V.l hta
          have hltN := (List.getElem?_eq_some_iff.1 hta).1
          have hJ1 := HJ.out _ wq wq.drew Hj2.out (grownBy_drew wq)
          rw [Nat.add_sub_cancel] at hJ1
          have hY := HY.out _ wq.drew hltN hJ1
          rw [hte] at hY
          obtain ⟨⟨xz, xn, xa, xb, xrefs⟩, xv⟩ := x
          obtain ⟨⟨yz, yn, ya, yb, yrefs⟩, yv⟩ := y
          dsimp only at d0 d1 d2 d3 d4 d5 d6 d7 d8 e0 e1 e2 e3 e4 e5 e6 e7 e8 hxv hyv
          generalize xrefs.length = xrn at *
          generalize yrefs.length = yrn at *
          subst hxv hyv
          have HYo := Lib.hid hY
          have Hlt := Lib.hid hltN
          have hni0 : (n : Int) > 0 := by omega
          have hni0' : (0 : Int) < (n : Int) := by omega
          have hdn : decide ((n : Int) > 0) = true := decide_eq_true hni0
          have hpm : (p : Int) + 1 < (m : Int) := by omega
          have hpm2 : (p : Int) < (m : Int) := by omega
          have hdp : decide ((p : Int) + 1 < (m : Int)) = true := decide_eq_true hpm
          have hwp : IntKind.i64.wrap (p : Int) = (p : Int) := IntWalk.i64_in _ (by omega)
          clear hY hJ1 hte hta hx hy hrow hrow2 hcell hltN
          have hY : YieldAt Fence.wide 0 Tryd.prog yl #[.int .i64 (n : Nat), .agg #[.int .i64 xz, .int .i64 xn, .string xa.u, .int .i64 xa.s, .int .i64 xa.k, .string xb.u, .int .i64 xb.s, .int .i64 xb.k, .slice xra xrn xrc, .int .i64 yz, .int .i64 yn, .string ya.u, .int .i64 ya.s, .int .i64 ya.k, .string yb.u, .int .i64 yb.s, .int .i64 yb.k, .slice yra yrn yrc]] wq.drew _ := HYo.out
          obtain ⟨fn, tmps, assign, body, hy, hR⟩ := hY
          clear HYo
          gi_wp2_with fail
          gi_region_with (refine ⟨rfl, hR.mono ?_⟩; rintro e W3 hcase; have hq := yb_one hcase; clear hcase; obtain ⟨bb, rfl, hcs⟩ := hq; have Hcase := Lib.hid hcs; clear hcs)
          all_goals
            cases bb with
            | true =>
              have HJ3 := Lib.hid (Hcase.out)
              clear hy hR
              gi_wp2
              gi_roundg (m + 2 - (p + 1 + 1))
              case measure => omega
              case rel => exact ⟨p + 1 + 1, by omega, fun e => by omega, .inr (by omega), rfl, by go_num, HJ3.out⟩
            | false =>
              have HJx3 := Lib.hid (Hcase.out)
              clear hy hR
              gi_wp2
              exact bodyPost_ret (results_none rfl _ _ _) rfl ⟨⟨_, rfl⟩, .inr ⟨_, Hlt.out, HJx3.out⟩⟩
        · have hnx : J (nbs V.l (n + 1)).length wq := by
            rw [nbs_succ_len, ← Hm.out]
            have := Hj2.out
            by_cases e : n = 0
            · rw [if_pos e]; rw [hi0 e] at this; exact this
            · rw [if_neg e, show m - 1 = i - 1 by omega]; exact this
          have Hnx := Lib.hid hnx
          clear hnx
          by_cases e : n = 0
          · have hnf : ¬ (n : Int) > 0 := by omega
            have hnf' : ¬ (0 : Int) < (n : Int) := by omega
            have hdn : decide ((n : Int) > 0) = false := decide_eq_false hnf
            have hi1' := hi0 e
            clear e
            gi_wp2
            gi_roundg (5 - (n + 1))
            case measure => omega
            case rel => exact ⟨n + 1, by omega, rfl, by go_num, Hnx.out⟩
          · have hni0 : (n : Int) > 0 := by omega
            have hni0' : (0 : Int) < (n : Int) := by omega
            have hdn : decide ((n : Int) > 0) = true := decide_eq_true hni0
            have hpm : ¬ (i : Int) < (m : Int) := by omega
            have hdp : decide ((i : Int) < (m : Int)) = false := decide_eq_false hpm
            gi_wp2
            gi_roundg (5 - (n + 1))
            case measure => omega
            case rel => exact ⟨n + 1, by omega, rfl, by go_num, Hnx.out⟩
    · obtain rfl : n = 4 := by omega
      gi_wp2
      exact bodyPost_end (results_none rfl _ _ _) rfl ⟨⟨_, rfl⟩, .inl Hj.out⟩
end Go.Proofs.YtcmndnglmpkpdaaDoor.Tithe
