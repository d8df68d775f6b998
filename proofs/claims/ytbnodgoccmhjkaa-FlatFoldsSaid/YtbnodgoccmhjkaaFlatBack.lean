/- A model's Back: walked. -/
import Derived.Test.YtbnodgoccmhjkaaFlatGets
namespace Go.Proofs.Ytbnodgoccmhjkaa.Tithe
open Go.RowKit Go.Sort Go.Shelf
set_option linter.unusedVariables false
set_option linter.unusedSimpArgs false
set_option maxRecDepth 100000
theorem fillT_one (most : Int) (L : List (List Bo)) (l : List Bo) : (fillT most (L ++ [l])).length ≤ L.length + 1 := by
  have := fillT_len most (L ++ [l]); simpa using this
theorem fillT_twice (most : Int) (L : List (List Bo)) : fillT most (fillT most L) = fillT most L := by
  have key : ∀ n (L : List (List Bo)), L.length = n → fillT most (fillT most L) = fillT most L := by
    intro n
    induction n with
    | zero => intro L h; rw [List.eq_nil_of_length_eq_zero h]; rfl
    | succ n ih =>
      intro L h
      rcases List.eq_nil_or_concat L with q | ⟨L', l, q⟩
      · rw [q] at h; simp at h
      · rw [List.concat_eq_append] at q
        subst q
        have hl : L'.length = n := by simpa using h
        rw [fillT_snoc]
        have hi := ih L' hl
        by_cases hc : chkM most (sumN (fillT most L') : Nat) l = 0
        · have e : fillL most (fillT most L') l = fillT most L' ++ [l] := by unfold fillL; rw [if_pos hc]
          rw [e, fillT_snoc, hi, e]
        · have e : fillL most (fillT most L') l = fillT most L' := by unfold fillL; rw [if_neg hc]
          rw [e, hi]
  exact key _ L rfl
theorem fillT_prefix (most : Int) (L : List (List Bo)) (l : List Bo) (h : fillT most (L ++ [l]) = L ++ [l]) : fillT most L = L := by
  rw [fillT_snoc] at h
  unfold fillL at h
  split at h
  · exact List.append_cancel_right h
  · have h1 := congrArg List.length h
    have h2 := fillT_len most L
    rw [List.length_append, List.length_singleton] at h1
    omega
theorem fillT_take (most : Int) (L : List (List Bo)) (h : fillT most L = L) (n : Nat) : fillT most (L.take n) = L.take n := by
  have key : ∀ k (L : List (List Bo)), L.length = k → fillT most L = L → ∀ n, fillT most (L.take n) = L.take n := by
    intro k
    induction k with
    | zero => intro L hl h n; rw [List.eq_nil_of_length_eq_zero hl, List.take_nil]; rfl
    | succ k ih =>
      intro L hl h n
      rcases List.eq_nil_or_concat L with q | ⟨L', l, q⟩
      · rw [q] at hl; simp at hl
      · rw [List.concat_eq_append] at q
        subst q
        have hl' : L'.length = k := by simpa using hl
        by_cases hn : n ≤ L'.length
        · rw [List.take_append_of_le_length hn]
          exact ih L' hl' (fillT_prefix most L' l h) n
        · rw [List.take_of_length_le (by rw [List.length_append, List.length_singleton]; omega)]
          exact h
  exact key _ L rfl h n
theorem sumN_flat (L : List (List Bo)) : sumN L = L.flatten.length := by unfold sumN; rw [List.length_flatten]
def BackOut (most : Int) (L : List (List Bo)) (w : World) (e : Ending) (w' : World) : Prop := ∃ mb B sm im rows, e = .returned (.pointer (some ⟨mb, 0, none⟩)) ∧ IsMo w' B mb most rows sm im 0 ∧ opsOf rows = fillT most L ∧ Below w.heap.size w w'
attribute [local go_sem] Oper.semAt_some
set_option maxHeartbeats 6400000 in
theorem back_any (mb : Nat) (k : Int) (most last : Int) (a : Option Addr) (c : Nat) (rows : List Wr) (sm im : Nat) (hd : Int) (w : World) (hB : w.heap[mb]? = some (.cells (moC most last (.slice a rows.length c) sm im hd) 78 (0, 0))) (h : IsWs w (.slice a rows.length c) rows) (hl : rows.length ≤ 20)
    (hsm : ∀ r ∈ rows, r.2.length ≤ 70 ∧ ∀ x ∈ r.2, x.u.size ≤ 200 ∧ x.v.size ≤ 500) :
    Calls Try.prog 13 #[.pointer (some ⟨mb, 0, none⟩), .int .i64 k] w (BackOut most ((opsOf rows).take (min k.toNat rows.length)) w) := by
  obtain ⟨hsl, hrr⟩ := h
  obtain ⟨-, hc, hm, hx⟩ := hsl.at
  obtain ⟨n, hn⟩ : ∃ n, n = rows.length := ⟨_, rfl⟩
  rw [← hn] at hc hx hB hl ⊢
  obtain ⟨N, hN⟩ : ∃ N, N = min k.toNat n := ⟨_, rfl⟩
  have Hcl := Lib.hid (fun (A : World) (hA : Below w.heap.size w A) => clip_any A mb most last a n c sm im hd k (blk_bels hA hB) (by omega))
  rw [← hN] at Hcl ⊢
  have hNn : N ≤ n := by omega
  have hNc : N ≤ c := by omega
  have Hx := Lib.hid hx
  have Hn := Lib.hid hn
  have Hrr := Lib.hid hrr
  have Hsm := Lib.hid hsm
  have Hnew := Lib.hid (mnew_any most w)
  have m0 := (cell_of_blk hB 0).trans (show _ = some (.int .i64 most) from rfl)
  have HB := Lib.hid hB
  have hmbl : mb < w.heap.size := blk_lt hB
  have Hmbl := Lib.hid hmbl
  clear hsl hx hn hrr hB hsm hN hmbl
  go_enter Try.func13, Try.ntmps13
  go_wp2_with fail
  refine Hnew.out.mono ?_
  rintro e w1 ⟨rfl, hM, hS, hI, hb1, hs1⟩
  obtain ⟨mb2, hmb2⟩ : ∃ q, q = w.heap.size + 2 := ⟨_, rfl⟩
  rw [← hmb2] at hM ⊢
  have HMo : Hid (IsMo w1 (mb2 + 1) mb2 most [] w.heap.size (w.heap.size + 1) 0) := Lib.hid ⟨⟨none, 0, hM, World.ownsRow_nil _ _ _ _, fun r hr => by cases hr⟩, by omega, by omega⟩
  have Hb1 := Lib.hid hb1
  have Hge : Hid (w.heap.size ≤ mb2) := Lib.hid (by omega)
  have m2 := (cell_of_blk (blk_bels hb1 HB.out) 2).trans (show _ = some (.slice a n c) from rfl)
  have hcq := Hcl.out w1 hb1
  clear hM hS hI hb1 hs1 hmb2 Hnew m0
  go_wp2_with fail
  go_quiet ((go_at_call 33; first | exact Calls.quiet_of_same hcq | exact Calls.quiet_of_same (Hcl.out _ (below_drewN Hb1.out _))))
  rename_i nq
  have Hb2 : Hid (Below w.heap.size w (w1.drewN nq)) := Lib.hid (below_drewN Hb1.out _)
  have HMo2 : Hid (IsMo (w1.drewN nq) (mb2 + 1) mb2 most [] w.heap.size (w.heap.size + 1) 0) := Lib.hid (HMo.out.bel (below_drewN (Below.refl _ _) _))
  generalize w1.drewN nq = w2 at *
  clear m2 hcq Hcl HMo Hb1
  go_wp2_with fail
  go_loopw [22] (fun iv wr => ∃ i : Nat, i ≤ N ∧ iv = .int .i64 i ∧ Hid (∃ rows', IsMo wr (mb2 + 1) mb2 most rows' w.heap.size (w.heap.size + 1) 0 ∧ opsOf rows' = fillT most ((opsOf rows).take i)) ∧ Hid (Below w.heap.size w wr)) (fun iv _ => N - (intOf iv).toNat)
  case atStart => exact ⟨0, Nat.zero_le _, rfl, Lib.hid ⟨[], HMo2.out, rfl⟩, Hb2⟩
  case round =>
    clear Hb2 HMo2
    obtain ⟨wo, rfl⟩ : ∃ wo : World, wo = wr := ⟨_, rfl⟩
    obtain ⟨i, hi, rfl, hMo, hb⟩ := hrel
    by_cases hiN : i < N
    · obtain ⟨be, off, rfl, hcell⟩ := Hx.out (by omega)
      obtain ⟨r, hrk⟩ : ∃ r, rows[i]? = some r := ⟨_, List.getElem?_eq_getElem (by rw [← Hn.out]; omega)⟩
      have d0 : wo.cell? ⟨be, off + i, none⟩ = some r.1 := by
        have := hcell i r hrk 0 _ rfl
        rw [Nat.mul_one, Nat.add_zero] at this
        exact (hb.out.cell (block_lt_of_cell this)).trans this
      have hrm := List.mem_of_getElem? hrk
      have hro := (Hrr.out r hrm).below hb.out
      have hrs := Hsm.out r hrm
      have htk : (opsOf rows).take (i + 1) = (opsOf rows).take i ++ [r.2] := by
        have : (opsOf rows)[i]? = some r.2 := by unfold opsOf; rw [List.getElem?_map, hrk]; rfl
        rw [List.take_add_one, this]; rfl
      obtain ⟨rows', hM', he'⟩ := hMo.out
      have hlr : lastN rows' ≤ 1000000 ∧ rows'.length ≤ 1000 := by
        have h1 : opsOf rows' = fillT most ((opsOf rows).take i) := he'
        have h2 := fillT_len most ((opsOf rows).take i)
        have h3 : ((opsOf rows).take i).length ≤ 20 := by rw [List.length_take, opsOf_len]; rw [← Hn.out]; omega
        have h4 : (opsOf rows').flatten.length ≤ 70 * (opsOf rows').length := flatten_le (fun x hx => by
          rw [h1] at hx
          have h5 := List.mem_of_mem_take (fillT_sub hx)
          unfold opsOf at h5
          obtain ⟨q, hq, rfl⟩ := List.mem_map.1 h5
          exact (Hsm.out q hq).1)
        rw [lastN_ops, sumN_flat]
        rw [← h1, opsOf_len] at h2
        rw [opsOf_len] at h4
        omega
      have hwr := mwrite_any wo (mb2 + 1) mb2 most rows' w.heap.size (w.heap.size + 1) 0 r.1 r.2 hM' hro hrs.2 (by have := hrs.1; omega) hlr.2 hlr.1
      rw [lastN_ops, he'] at hwr
      have Hwr := Lib.hid hwr
      have He' := Lib.hid he'
      have HM' := Lib.hid hM'
      have Htk := Lib.hid htk
      obtain ⟨rv, l⟩ := r
      dsimp only at d0 Hwr Htk hro
      obtain ⟨ra, rc, rfl, -, -, -⟩ := id hro
      have hiNi : (i : Int) < (N : Int) := by omega
      clear hcell hrk hrm hro hrs htk hM' he' hlr hwr hMo
      go_wp2_with fail
      refine Hwr.out.mono ?_
      intro e w3 h3
      obtain ⟨rfl, h4, h5, h6, -⟩ := h3.out
      have Hb3 := Lib.hid (hb.out.trans (h6.mono Hge.out))
      have HM3 : Hid (∃ rows', IsMo w3 (mb2 + 1) mb2 most rows' w.heap.size (w.heap.size + 1) 0 ∧ opsOf rows' = fillT most ((opsOf rows).take (i + 1))) := Lib.hid (by
        rw [Htk.out, fillT_snoc]
        unfold fillL
        by_cases q : chkM most (sumN (fillT most ((opsOf rows).take i)) : Nat) l = 0
        · obtain ⟨val, hq⟩ := h4 q
          exact ⟨_, hq, by rw [if_pos q, opsOf_snoc, He'.out]⟩
        · exact ⟨_, h5 q, by rw [if_neg q, He'.out]⟩)
      clear h3 h4 h5 h6 d0 Hwr
      go_wp2_with fail
      go_roundw
      case rel => exact ⟨i + 1, by omega, by go_num, HM3, Hb3⟩
      case measure => simp [intOf]; omega
    · obtain rfl : N = i := by omega
      go_wp2_with fail
      go_ret
      obtain ⟨rows', h1, h2⟩ := hMo.out
      exact ⟨mb2, _, _, _, rows', rfl, h1, h2, hb.out⟩
end Go.Proofs.Ytbnodgoccmhjkaa.Tithe
