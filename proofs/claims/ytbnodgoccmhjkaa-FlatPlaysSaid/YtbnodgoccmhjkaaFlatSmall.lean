/- law21's small; clip: walked. -/
import Derived.Test.YtbnodgoccmhjkaaFlatNew
namespace Go.Proofs.Ytbnodgoccmhjkaa.Tithe
open Go.RowKit Go.Sort Go.Shelf
set_option linter.unusedVariables false
set_option linter.unusedSimpArgs false
set_option maxRecDepth 100000
def smO (x : Bo) : Bool := decide (x.u.size ≤ 200) && decide (x.v.size ≤ 500)
def smR (l : List Bo) : Bool := decide (l.length ≤ 70) && l.all smO
def smallB (rows : List Wr) (most : Int) : Bool := (rows.all fun r => smR r.2) && decide ((rows.length : Int) ≤ most)
theorem smallB_no {rows : List Wr} {most : Int} {r : Wr} (h : r ∈ rows) (hr : smR r.2 = false) : smallB rows most = false := by
  unfold smallB
  have : (rows.all fun r => smR r.2) = false := by
    rw [List.all_eq_false]
    exact ⟨r, h, by rw [hr]; simp⟩
  rw [this]; rfl
theorem smR_no {l : List Bo} {x : Bo} (h : x ∈ l) (hx : smO x = false) : smR l = false := by
  unfold smR
  have : l.all smO = false := by
    rw [List.all_eq_false]
    exact ⟨x, h, by rw [hx]; simp⟩
  rw [this, Bool.and_false]
theorem smallB_facts {rows : List Wr} {most : Int} (h : smallB rows most = true) : (rows.length : Int) ≤ most ∧ ∀ r ∈ rows, r.2.length ≤ 70 ∧ ∀ x ∈ r.2, x.u.size ≤ 200 ∧ x.v.size ≤ 500 := by
  unfold smallB at h
  rw [Bool.and_eq_true, decide_eq_true_eq] at h
  refine ⟨h.2, fun r hr => ?_⟩
  have h1 := List.all_eq_true.1 h.1 r hr
  unfold smR at h1
  rw [Bool.and_eq_true, decide_eq_true_eq] at h1
  refine ⟨h1.1, fun x hx => ?_⟩
  have h2 := List.all_eq_true.1 h1.2 x hx
  unfold smO at h2
  rw [Bool.and_eq_true, decide_eq_true_eq, decide_eq_true_eq] at h2
  exact h2
attribute [local go_sem] Oper.semAt_some
set_option maxHeartbeats 3200000 in
theorem small_any (v : Value) (rows : List Wr) (most : Int) (w : World) (h : IsWs w v rows) :
    Calls Try.prog 7 #[v, .int .i64 most] w fun e w' => e = .returned (.bool (smallB rows most)) ∧ Below w.heap.size w w' := by
  obtain ⟨hsl, hrr⟩ := h
  obtain ⟨a, c, rfl, -, -, -⟩ := id hsl
  obtain ⟨-, hc, hm, hx⟩ := hsl.at
  obtain ⟨n, hn⟩ : ∃ n, n = rows.length := ⟨_, rfl⟩
  rw [← hn] at hc hx ⊢
  have Hx := Lib.hid hx
  have Hn := Lib.hid hn
  have Hrr := Lib.hid hrr
  clear hsl hx hn hrr
  go_enter Try.func7, Try.ntmps7
  go_wp2_with fail
  go_loopw [11] (fun iv wr => ∃ k : Nat, k ≤ n ∧ iv = .int .i64 k ∧ ((rows.take k).all fun r => smR r.2) = true ∧ Below w.heap.size w wr) (fun iv _ => n - (intOf iv).toNat)
  case atStart => exact ⟨0, Nat.zero_le _, rfl, rfl, Below.refl _ _⟩
  case round =>
    obtain ⟨wo, rfl⟩ : ∃ wo : World, wo = wr := ⟨_, rfl⟩
    obtain ⟨k, hk, rfl, hall, hb⟩ := hrel
    have Hall := Lib.hid hall
    have Hb := Lib.hid hb
    clear hall hb
    by_cases hkn : k < n
    · obtain ⟨be, off, rfl, hcell⟩ := Hx.out (by omega)
      obtain ⟨r, hrk⟩ : ∃ r, rows[k]? = some r := ⟨_, List.getElem?_eq_getElem (by rw [← Hn.out]; exact hkn)⟩
      have d0 : wo.cell? ⟨be, off + k, none⟩ = some r.1 := by
        have := hcell k r hrk 0 _ rfl
        rw [Nat.mul_one, Nat.add_zero] at this
        exact (Hb.out.cell (block_lt_of_cell this)).trans this
      have hmem := List.mem_of_getElem? hrk
      have hro := Hrr.out r hmem
      have htk : ((rows.take (k + 1)).all fun r => smR r.2) = smR r.2 := by
        rw [List.take_add_one, hrk, List.all_append, Hall.out]; simp
      have Htk := Lib.hid htk
      have Hmem := Lib.hid hmem
      obtain ⟨rv, l⟩ := r
      dsimp only at d0 hro
      obtain ⟨ra, rc, rfl, -, -, -⟩ := id hro
      obtain ⟨-, hrc, hrm, hrx⟩ := hro.at
      obtain ⟨m, hm2⟩ : ∃ q, q = l.length := ⟨_, rfl⟩
      rw [← hm2] at d0 hrc hrx
      have Hrx := Lib.hid hrx
      have Hm2 := Lib.hid hm2
      have hkn2 : (k : Int) < (n : Int) := by omega
      clear hcell hrk hmem htk hro hrx hm2
      by_cases h70 : 70 < m
      · have d7 : decide ((m : Int) > 70) = true := decide_eq_true (by omega)
        have d7' : decide ((70 : Int) < (m : Int)) = true := decide_eq_true (by omega)
        have hno : smR l = false := by
          unfold smR
          rw [decide_eq_false (by rw [← Hm2.out]; omega), Bool.false_and]
        have Hno := Lib.hid (smallB_no (most := most) Hmem.out hno)
        clear hno
        go_wp2_with fail
        go_ret
        exact ⟨by rw [Hno.out]; rfl, Hb.out⟩
      · have d7 : decide ((m : Int) > 70) = false := decide_eq_false (by omega)
        have d7' : decide ((70 : Int) < (m : Int)) = false := decide_eq_false (by omega)
        go_wp2_with fail
        clear d7 d7' d0 hkn2
        go_loopw [20] (fun iv wr => ∃ j : Nat, j ≤ m ∧ iv = .int .i64 j ∧ (l.take j).all smO = true ∧ Below w.heap.size w wr) (fun iv _ => m - (intOf iv).toNat)
        case atStart => exact ⟨0, Nat.zero_le _, rfl, rfl, Hb.out⟩
        case round =>
          clear Hb
          obtain ⟨wq, rfl⟩ : ∃ wq : World, wq = wr := ⟨_, rfl⟩
          obtain ⟨j, hj, rfl, hal2, hbq⟩ := hrel
          have Hal2 := Lib.hid hal2
          have Hbq := Lib.hid hbq
          clear hal2 hbq
          by_cases hjm : j < m
          · obtain ⟨bo, of2, rfl, hce2⟩ := Hrx.out (by omega)
            obtain ⟨x, hxj⟩ : ∃ x, l[j]? = some x := ⟨_, List.getElem?_eq_getElem (by rw [← Hm2.out]; exact hjm)⟩
            obtain ⟨e0, e1, e2⟩ := IsOs.row (w := wq) (fun i x hi j y hj => (Hbq.out.cell (block_lt_of_cell (hce2 i x hi j y hj))).trans (hce2 i x hi j y hj)) hxj
            have hxm := List.mem_of_getElem? hxj
            have htj : (l.take (j + 1)).all smO = smO x := by rw [List.take_add_one, hxj, List.all_append, Hal2.out]; simp
            have Htj := Lib.hid htj
            have Hxm := Lib.hid hxm
            obtain ⟨kd, u, val⟩ := x
            dsimp only at e0 e1 e2
            have hA : Below wq.heap.size wq (wq.alloc (.cells #[.int .i64 kd, .string u, .string val] 40)) := (Below.refl _ _).alloc (Nat.le_refl _) _
            have HS := Lib.hid (blk_of_alloc wq (.cells #[.int .i64 kd, .string u, .string val] 40))
            have HbW := Lib.hid (Hbq.out.trans (hA.mono Hbq.out.size))
            obtain ⟨sb, hsb⟩ : ∃ o, o = wq.heap.size := ⟨_, rfl⟩
            have Hsb := Lib.hid hsb
            rw [← hsb] at HS
            have hjm2 : (j : Int) < (m : Int) := by omega
            clear hA hsb hce2 hxj hxm htj
            go_upto_region 9 with fail
            rw [← Hsb.out]
            generalize wq.alloc (.cells #[.int .i64 kd, .string u, .string val] 40) = W at *
            clear Hsb e0 e1 e2
            have f1 := (cell_of_blk HS.out 1).trans (show _ = some (.string u) from rfl)
            have f2 := (cell_of_blk HS.out 2).trans (show _ = some (.string val) from rfl)
            by_cases hbad : 200 < u.size ∨ 500 < val.size
            · have hno : smO ⟨kd, u, val⟩ = false := by
                unfold smO
                rcases hbad with q | q
                · rw [decide_eq_false (by dsimp only; omega), Bool.false_and]
                · rw [decide_eq_false (p := val.size ≤ 500) (by omega), Bool.and_false]
              have Hno := Lib.hid (smallB_no (most := most) Hmem.out (smR_no Hxm.out hno))
              clear hno
              go_wp2_with fail
              all_goals first
                | (exfalso; omega)
                | (go_ret; exact ⟨by first | (rw [Hno.out]; rfl) | rw [Hno.out], HbW.out⟩)
            · have hyes : smO ⟨kd, u, val⟩ = true := by
                unfold smO
                rw [decide_eq_true (p := u.size ≤ 200) (by omega), decide_eq_true (p := val.size ≤ 500) (by omega)]; rfl
              have Hyes : Hid ((l.take (j + 1)).all smO = true) := Lib.hid (by rw [Htj.out, hyes])
              have g1 : decide ((u.size : Int) > 200) = false := decide_eq_false (by omega)
              have g1' : decide ((200 : Int) < (u.size : Int)) = false := decide_eq_false (by omega)
              have g2 : decide ((val.size : Int) > 500) = false := decide_eq_false (by omega)
              have g2' : decide ((500 : Int) < (val.size : Int)) = false := decide_eq_false (by omega)
              clear hyes
              go_wp2_with fail
              go_roundw
              case rel => exact ⟨j + 1, by omega, by go_num, Hyes.out, HbW.out⟩
              case measure => simp [intOf]; omega
          · obtain rfl : m = j := by omega
            have hyes : smR l = true := by
              unfold smR
              have := Hal2.out
              rw [Hm2.out, List.take_length] at this
              rw [this, decide_eq_true (by rw [← Hm2.out]; omega)]; rfl
            have Hyes : Hid (((rows.take (k + 1)).all fun r => smR r.2) = true) := Lib.hid (by rw [Htk.out]; exact hyes)
            clear hyes
            go_wp2_with fail
            go_roundw
            case rel => exact ⟨k + 1, by omega, by go_num, Hyes.out, Hbq.out⟩
            case measure => simp [intOf]; omega
    · obtain rfl : n = k := by omega
      have hfin : smallB rows most = decide ((n : Int) ≤ most) := by
        unfold smallB
        have := Hall.out
        rw [Hn.out, List.take_length] at this
        rw [this, ← Hn.out]; rfl
      have Hfin := Lib.hid hfin
      clear hfin
      go_wp2_with fail
      go_ret
      exact ⟨by rw [Hfin.out]; rfl, Hb.out⟩
theorem clip_any (W : World) (mb : Nat) (most last : Int) (a : Option Addr) (n c : Nat) (sm im : Nat) (hd : Int) (k : Int) (hB : W.heap[mb]? = some (.cells (moC most last (.slice a n c) sm im hd) 78 (0, 0))) (hn : n ≤ 1000000) :
    Calls Try.prog 33 #[.pointer (some ⟨mb, 0, none⟩), .int .i64 k] W fun e W' => e = .returned (.int .i64 (min k.toNat n : Nat)) ∧ W' = W := by
  have m2 := (cell_of_blk hB 2).trans (show _ = some (.slice a n c) from rfl)
  clear hB
  go_enter Try.func33, Try.ntmps33
  go_wp2_with fail
  all_goals go_ret
  all_goals refine ⟨congrArg Ending.returned (congrArg (Value.int IntKind.i64) ?_), rfl⟩
  all_goals omega
end Go.Proofs.Ytbnodgoccmhjkaa.Tithe
