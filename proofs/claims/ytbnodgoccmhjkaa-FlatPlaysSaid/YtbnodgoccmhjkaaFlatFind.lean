/- The document's Find: walked. -/
import Derived.Test.YtbnodgoccmhjkaaFlatFill
namespace Go.Proofs.Ytbnodgoccmhjkaa.Tithe
open Go.RowKit Go.Sort Go.Shelf
set_option linter.unusedVariables false
set_option linter.unusedSimpArgs false
set_option maxRecDepth 100000
/-- what an op says of a key -/
def findS (key : ByteArray) (st : ByteArray × Bool) (x : Bo) : ByteArray × Bool := if x.u = key then (x.v, decide (x.k = 1)) else st
def findL (key : ByteArray) (l : List Bo) : ByteArray × Bool := l.foldl (findS key) (⟨#[]⟩, false)
theorem findL_snoc (key : ByteArray) (l : List Bo) (x : Bo) : findL key (l ++ [x]) = findS key (findL key l) x := by
  unfold findL; rw [List.foldl_append]; rfl
theorem str_noO {a b : ByteArray} (h : a ≠ b) : (a.toList == b.toList) = false := by
  rw [beq_cmpB]
  exact decide_eq_false (fun q => h ((cmpB_zero _ _).1 q))
attribute [local go_sem] Oper.semAt_some
set_option maxHeartbeats 3200000 in
theorem find_any (xb : Nat) (wv : Value) (most : Int) (rows : List Wr) (nn : Int) (key : ByteArray) (w : World) (hB : w.heap[xb]? = some (.cells #[wv, .int .i64 most] 36 (0, 0))) (h : IsWs w wv rows) (hl : rows.length ≤ 1000000) :
    Calls Try.prog 11 #[.pointer (some ⟨xb, 0, none⟩), .int .i64 nn, .string key] w fun e w' => e = .returned (.tuple #[.string (findL key ((opsOf rows).take nn.toNat).flatten).1, .bool (findL key ((opsOf rows).take nn.toNat).flatten).2]) ∧ Below w.heap.size w w' := by
  obtain ⟨hsl, hrr⟩ := h
  obtain ⟨a, c, rfl, -, -, -⟩ := id hsl
  obtain ⟨-, hc, hm, hx⟩ := hsl.at
  obtain ⟨n, hn⟩ : ∃ n, n = rows.length := ⟨_, rfl⟩
  rw [← hn] at hc hx hB hl
  have Hx := Lib.hid hx
  have Hn := Lib.hid hn
  have Hrr := Lib.hid hrr
  have HB := Lib.hid hB
  have Hb0 := Lib.hid (fun (A : World) (hA : Below w.heap.size w A) => (cell_of_blk (blk_bels hA hB) 0).trans (show _ = some (.slice a n c) from rfl))
  clear hsl hx hn hrr hB
  go_enter Try.func11, Try.ntmps11
  go_wp2_with fail
  go_loopw [8, 9, 10] (fun vv bv iv wr => ∃ i : Nat, i ≤ n ∧ (i ≤ nn.toNat) ∧ iv = .int .i64 i ∧ vv = .string (findL key ((opsOf rows).take i).flatten).1 ∧ bv = .bool (findL key ((opsOf rows).take i).flatten).2 ∧ Below w.heap.size w wr) (fun _ _ iv _ => n - (intOf iv).toNat)
  case atStart => exact ⟨0, Nat.zero_le _, Nat.zero_le _, rfl, rfl, rfl, Below.refl _ _⟩
  case round =>
    obtain ⟨wo, rfl⟩ : ∃ wo : World, wo = wr := ⟨_, rfl⟩
    obtain ⟨i, hi, hi2, rfl, rfl, rfl, hb⟩ := hrel
    have Hb := Lib.hid hb
    clear hb
    have b0 := Hb0.out wo Hb.out
    obtain ⟨st, hst⟩ : ∃ st, st = findL key ((opsOf rows).take i).flatten := ⟨_, rfl⟩
    rw [← hst]
    have Hst := Lib.hid hst
    clear hst
    obtain ⟨s1, s2⟩ := st
    dsimp only
    by_cases hgo : i < n ∧ (i : Int) < nn
    · obtain ⟨hin, hinn⟩ := hgo
      obtain ⟨be, off, rfl, hcell⟩ := Hx.out (by omega)
      obtain ⟨r, hrk⟩ : ∃ r, rows[i]? = some r := ⟨_, List.getElem?_eq_getElem (by rw [← Hn.out]; exact hin)⟩
      have Hd := Lib.hid (fun (A : World) (hA : Below w.heap.size w A) => show A.cell? ⟨be, off + i, none⟩ = some r.1 from by
        have := hcell i r hrk 0 _ rfl
        rw [Nat.mul_one, Nat.add_zero] at this
        exact (hA.cell (block_lt_of_cell this)).trans this)
      have hro := Hrr.out r (List.mem_of_getElem? hrk)
      have htk : ((opsOf rows).take (i + 1)).flatten = ((opsOf rows).take i).flatten ++ r.2 := by
        have : (opsOf rows)[i]? = some r.2 := by unfold opsOf; rw [List.getElem?_map, hrk]; rfl
        rw [List.take_add_one, this, List.flatten_append]; simp
      have Htk := Lib.hid htk
      obtain ⟨rv, l⟩ := r
      dsimp only at Hd hro
      obtain ⟨ra, rc, rfl, -, -, -⟩ := id hro
      obtain ⟨-, hrc, hrm, hrx⟩ := hro.at
      obtain ⟨m, hm2⟩ : ∃ q, q = l.length := ⟨_, rfl⟩
      rw [← hm2] at Hd hrc hrx
      have Hrx := Lib.hid hrx
      have Hm2 := Lib.hid hm2
      have hin2 : (i : Int) < (n : Int) := by omega
      clear hcell hrk htk hro hrx hm2
      go_wp2_with fail
      clear b0
      go_loopw [8, 9, 11] (fun vv bv jv wr => ∃ j : Nat, j ≤ m ∧ jv = .int .i64 j ∧ vv = .string (findL key (((opsOf rows).take i).flatten ++ l.take j)).1 ∧ bv = .bool (findL key (((opsOf rows).take i).flatten ++ l.take j)).2 ∧ Below w.heap.size w wr) (fun _ _ jv _ => m - (intOf jv).toNat)
      case atStart => exact ⟨0, Nat.zero_le _, rfl, by rw [List.take_zero, List.append_nil, ← Hst.out], by rw [List.take_zero, List.append_nil, ← Hst.out], Hb.out⟩
      case round =>
        clear Hb Hst
        obtain ⟨wq, rfl⟩ : ∃ wq : World, wq = wr := ⟨_, rfl⟩
        obtain ⟨j, hj, rfl, rfl, rfl, hbq⟩ := hrel
        have Hbq := Lib.hid hbq
        clear hbq
        have b0 := Hb0.out wq Hbq.out
        have d0 := Hd.out wq Hbq.out
        obtain ⟨st, hst⟩ : ∃ st, st = findL key (((opsOf rows).take i).flatten ++ l.take j) := ⟨_, rfl⟩
        rw [← hst]
        have Hst := Lib.hid hst
        clear hst
        obtain ⟨t1, t2⟩ := st
        dsimp only
        by_cases hjm : j < m
        · obtain ⟨bo, of2, rfl, hce2⟩ := Hrx.out (by omega)
          obtain ⟨x, hxj⟩ : ∃ x, l[j]? = some x := ⟨_, List.getElem?_eq_getElem (by rw [← Hm2.out]; exact hjm)⟩
          obtain ⟨e0, e1, e2⟩ := IsOs.row (w := wq) (fun i x hi j y hj => (Hbq.out.cell (block_lt_of_cell (hce2 i x hi j y hj))).trans (hce2 i x hi j y hj)) hxj
          have htj : findL key (((opsOf rows).take i).flatten ++ l.take (j + 1)) = findS key (t1, t2) x := by
            rw [List.take_add_one, hxj]
            show findL key (((opsOf rows).take i).flatten ++ (l.take j ++ [x])) = _
            rw [← List.append_assoc, findL_snoc, ← Hst.out]
          have Htj := Lib.hid htj
          obtain ⟨kd, u, val⟩ := x
          dsimp only at e0 e1 e2
          have hA : Below wq.heap.size wq (wq.alloc (.cells #[.int .i64 kd, .string u, .string val] 70)) := (Below.refl _ _).alloc (Nat.le_refl _) _
          have HS := Lib.hid (blk_of_alloc wq (.cells #[.int .i64 kd, .string u, .string val] 70))
          have HbW := Lib.hid (Hbq.out.trans (hA.mono Hbq.out.size))
          obtain ⟨sb, hsb⟩ : ∃ o, o = wq.heap.size := ⟨_, rfl⟩
          have Hsb := Lib.hid hsb
          rw [← hsb] at HS
          have hjm2 : (j : Int) < (m : Int) := by omega
          clear hA hsb hce2 hxj htj
          go_upto_region 9 with fail
          rw [← Hsb.out]
          generalize wq.alloc (.cells #[.int .i64 kd, .string u, .string val] 70) = W at *
          clear Hsb e0 e1 e2 b0 d0
          have f0 := (cell_of_blk HS.out 0).trans (show _ = some (.int .i64 kd) from rfl)
          have f1 := (cell_of_blk HS.out 1).trans (show _ = some (.string u) from rfl)
          have f2 := (cell_of_blk HS.out 2).trans (show _ = some (.string val) from rfl)
          by_cases hue : u = key
          · subst hue
            have Hn2 : Hid (findL u (((opsOf rows).take i).flatten ++ l.take (j + 1)) = (val, decide (kd = 1))) := Lib.hid (by rw [Htj.out]; unfold findS; rw [if_pos rfl])
            have hkb : (kd == 1) = decide (kd = 1) := by rw [Bool.eq_iff_iff, beq_iff_eq, decide_eq_true_eq]
            go_wp2_with fail
            go_quiet (fail)
            go_wp2_with fail
            go_roundw
            case rel => exact ⟨j + 1, by omega, by go_num, by rw [Hn2.out], by rw [Hn2.out], below_drewN HbW.out _⟩
            case measure => simp [intOf]; omega
          · have hq := str_noO hue
            have Hn2 : Hid (findL key (((opsOf rows).take i).flatten ++ l.take (j + 1)) = (t1, t2)) := Lib.hid (by rw [Htj.out]; unfold findS; rw [if_neg hue])
            go_wp2_with fail
            go_roundw
            case rel => exact ⟨j + 1, by omega, by go_num, by rw [Hn2.out], by rw [Hn2.out], HbW.out⟩
            case measure => simp [intOf]; omega
        · obtain rfl : m = j := by omega
          have Hfin : Hid (findL key ((opsOf rows).take (i + 1)).flatten = (t1, t2)) := Lib.hid (by rw [Htk.out, Hst.out, Hm2.out, List.take_length])
          go_wp2_with fail
          go_roundw
          case rel => exact ⟨i + 1, by omega, by omega, by go_num, by rw [Hfin.out], by rw [Hfin.out], Hbq.out⟩
          case measure => simp [intOf]; omega
    · have hfin : findL key ((opsOf rows).take nn.toNat).flatten = (s1, s2) := by
        rw [Hst.out]
        by_cases q : i < n
        · have : nn.toNat = i := by omega
          rw [this]
        · have h1 : (opsOf rows).length ≤ i := by rw [opsOf_len, ← Hn.out]; omega
          rw [List.take_of_length_le h1, List.take_of_length_le (Nat.le_trans h1 hi2)]
      have Hfin := Lib.hid hfin
      clear hfin
      by_cases q : i < n
      · have q1 : ¬ (i : Int) < nn := fun z => hgo ⟨q, z⟩
        have q2 : decide ((i : Int) < nn) = false := decide_eq_false q1
        have q3 : (i : Int) < (n : Int) := by omega
        go_wp2_with fail
        go_ret2
        exact ⟨by rw [Hfin.out]; rfl, Hb.out⟩
      · obtain rfl : n = i := by omega
        go_wp2_with fail
        go_ret2
        exact ⟨by rw [Hfin.out]; rfl, Hb.out⟩
end Go.Proofs.Ytbnodgoccmhjkaa.Tithe
