/- The document's lists of tables, one taken out, one put in: walked. -/
import Derived.Test.YtjefpogeknbelaaLevTurn
namespace Go.Proofs.Ytjefpogeknbelaa.Tithe
open Go.RowKit Go.Sort Go.Shelf
set_option linter.unusedVariables false
set_option linter.unusedSimpArgs false
set_option maxRecDepth 100000
theorem mt15Info3 : (Try.prog.info? 35).map (fun i => (i.zero, i.size, i.bytes)) = some (some (.agg #[.int .i64 0, .int .i64 0, .string ⟨#[]⟩, .int .i64 0, .int .i64 0, .string ⟨#[]⟩, .int .i64 0, .int .i64 0, .slice none 0 0]), 9, 104) := by kernel_rfl
abbrev OwnM15 (W : World) (base : Nat) (v : Value) (rows : List Mr) : Prop := W.ownsRow base 35 9 v rows.length (flat mrC rows)
theorem mrC_one' {r : Mr} {W : World} {l : List (Int × Int)} (h : IsRr W r.2 l) : ∀ u ∈ mrC r, u.oneCell' = true := by
  obtain ⟨a, c, e, -⟩ := h
  intro u hu
  simp only [mrC, List.mem_cons, List.not_mem_nil, or_false] at hu
  rcases hu with rfl | rfl | rfl | rfl | rfl | rfl | rfl | rfl | rfl
  all_goals first | rfl | (rw [e]; rfl)
theorem push_m15 (W0 : World) (base : Nat) (xa : Option Addr) (rl xc : Nat) (rows : List Mr) (r : Mr) (h : OwnM15 W0 base (.slice xa rl xc) rows) (h1 : ∀ u ∈ mrC r, u.oneCell' = true) (hl : rl ≤ 1000000) (hb : base ≤ W0.heap.size) (o : List Value) (ho : o = mrC r) :
    ∃ ya yc w2, (Builtin.append_ #[58, 58] 58 #[.slice xa rl xc, .slice (some ⟨W0.heap.size, 0, none⟩) 1 1]).run Try.prog (W0.alloc (.cells o.toArray 35)) = .ok (.slice ya (rl + 1) yc) w2 ∧
      OwnM15 w2 base (.slice ya (rl + 1) yc) (rows ++ [r]) ∧ (W0.alloc (.cells o.toArray 35)).grownBy w2 (Value.slice xa rl xc).ownBlock := by
  subst ho
  obtain ⟨i0, hi0, hz0, hz1, hz2⟩ := info_partsL mt15Info3
  have h' : OwnM15 (W0.alloc (.cells (mrC r).toArray 35)) base (.slice xa rl xc) rows := own_below h ((Below.refl _ _).alloc (Nat.le_refl _) _)
  have hrl : rl = rows.length := by
    rcases h.2 with ⟨e, h⟩ | ⟨g, cap, cur, e, -⟩
    · injection e with _ e _; rw [e, h]
    · injection e with _ e _
  obtain ⟨g, yc, w2, hrun, hown, hg, hlies, -⟩ := run_append_lies (P := Try.prog) (W0.alloc (.cells (mrC r).toArray 35)) 58 58 base 35 i0 (.agg #[.int .i64 0, .int .i64 0, .string ⟨#[]⟩, .int .i64 0, .int .i64 0, .string ⟨#[]⟩, .int .i64 0, .int .i64 0, .slice none 0 0]) 9 104 Try.underlying58 hi0 hz0 hz1 hz2 rfl (by decide)
    (.slice xa rl xc) rows.length (flat mrC rows) h' ⟨W0.heap.size, 0, none⟩ 1 1 (mrC r) rfl (newsL _ _ rfl _ _ rfl) h1 (by omega) (by unfold maxLen; omega) (by omega) (by simp; omega) _ rfl
  refine ⟨some ⟨g, 0, none⟩, yc, w2, by rw [hrl] at hrun ⊢; exact hrun, ?_, hg⟩
  rw [hrl]
  unfold OwnM15
  rw [List.length_append, flat_append, flat_one]
  exact hown
/-- what was below stays below -/
theorem push_below {w W0 w2 : World} {B base : Nat} {xa : Option Addr} {rl xc : Nat} {rows : List Mr} {ob : Obj} (hb : Below B w W0) (h : OwnM15 W0 base (.slice xa rl xc) rows) (hg : (W0.alloc ob).grownBy w2 (Value.slice xa rl xc).ownBlock) (hB : B ≤ base) (hs : base ≤ W0.heap.size) : Below B w w2 :=
  (hb.alloc (Nat.le_trans hB hs) _).grown hg (by rw [World.size_alloc]; omega) (fun g e => Nat.le_trans hB (h.lt g e).1)
theorem push_blk {W0 w2 : World} {base b : Nat} {xa : Option Addr} {rl xc : Nat} {rows : List Mr} {ob x : Obj} (h : OwnM15 W0 base (.slice xa rl xc) rows) (hg : (W0.alloc ob).grownBy w2 (Value.slice xa rl xc).ownBlock) (hlt : b < base) (hx : W0.heap[b]? = some x) : w2.heap[b]? = some x :=
  (hg.block b (blk_lt (blk_old hx ob)) (fun e => by have := (h.lt b e.symm).1; omega)).trans (blk_old hx ob)
/-- the list without one -/
def woP (l : List Mr) (at0 : Int) : Nat → List Mr
  | 0 => []
  | k + 1 => if (k : Int) = at0 then woP l at0 k else woP l at0 k ++ (l[k]?).toList
theorem woP_len (l : List Mr) (at0 : Int) : ∀ k, (woP l at0 k).length ≤ k
  | 0 => Nat.le_refl _
  | k + 1 => by
    have := woP_len l at0 k
    unfold woP
    split
    · omega
    · rw [List.length_append]
      cases l[k]? <;> simp <;> omega
theorem woP_eq (l : List Mr) (i : Nat) : ∀ k, k ≤ l.length → woP l i k = if k ≤ i then l.take k else (l.take k).eraseIdx i
  | 0, _ => by simp [woP]
  | k + 1, hk => by
    have ih := woP_eq l i k (by omega)
    have hx : l[k]? = some l[k] := List.getElem?_eq_getElem (by omega)
    have ht : l.take (k + 1) = l.take k ++ [l[k]] := by rw [List.take_add_one, hx]; rfl
    unfold woP
    rw [ih, hx, ht]
    by_cases h1 : k = i
    · subst h1
      rw [if_pos rfl, if_pos (Nat.le_refl _), if_neg (by omega), List.eraseIdx_append_of_length_le (by rw [List.length_take]; omega), List.length_take, Nat.min_eq_left (by omega), Nat.sub_self]; simp
    · rw [if_neg (by omega)]
      by_cases h2 : k ≤ i
      · rw [if_pos h2, if_pos (by omega)]; rfl
      · rw [if_neg h2, if_neg (by omega), List.eraseIdx_append_of_lt_length (by rw [List.length_take]; omega)]; rfl
theorem woP_all {l : List Mr} {i : Nat} (h : i < l.length) : woP l i l.length = l.eraseIdx i := by
  rw [woP_eq l i _ (Nat.le_refl _), if_neg (by omega), List.take_length]
theorem woP_mem {l : List Mr} {at0 : Int} {x : Mr} : ∀ {k : Nat}, x ∈ woP l at0 k → x ∈ l
  | 0, h => by cases h
  | k + 1, h => by
    unfold woP at h
    split at h
    · exact woP_mem h
    · rcases List.mem_append.1 h with h | h
      · exact woP_mem h
      · cases hk : l[k]? with
        | none => rw [hk] at h; cases h
        | some y => rw [hk] at h; rw [List.mem_singleton.1 h]; exact List.mem_of_getElem? hk
theorem own_n {W : World} {base : Nat} {e : TypeId} {size N n : Nat} {a : Option Addr} {c : Nat} {xs : List Value} (h : W.ownsRow base e size (.slice a n c) N xs) : n = N := by
  rcases h.2 with ⟨e, h⟩ | ⟨g, cap, cur, e, -⟩
  · injection e with _ e _; rw [e, h]
  · injection e with _ e _
/-- the list with one more -/
def wiP (l : List Mr) (at0 : Int) (r : Mr) : Nat → List Mr
  | 0 => []
  | k + 1 => (wiP l at0 r k ++ if (k : Int) = at0 then [r] else []) ++ (l[k]?).toList
theorem wiP_len (l : List Mr) (at0 : Int) (r : Mr) : ∀ k, (wiP l at0 r k).length ≤ 2 * k
  | 0 => Nat.le_refl _
  | k + 1 => by
    have := wiP_len l at0 r k
    unfold wiP
    rw [List.length_append, List.length_append]
    cases l[k]? <;> split <;> simp <;> omega
theorem wiP_mem {l : List Mr} {at0 : Int} {r x : Mr} : ∀ {k : Nat}, x ∈ wiP l at0 r k → x = r ∨ x ∈ l
  | 0, h => by cases h
  | k + 1, h => by
    unfold wiP at h
    rcases List.mem_append.1 h with h | h
    · rcases List.mem_append.1 h with h | h
      · exact wiP_mem h
      · split at h
        · exact .inl (List.mem_singleton.1 h)
        · cases h
    · cases hk : l[k]? with
      | none => rw [hk] at h; cases h
      | some y => rw [hk] at h; rw [List.mem_singleton.1 h]; exact .inr (List.mem_of_getElem? hk)
theorem wiP_eq (l : List Mr) (i : Nat) (r : Mr) : ∀ k, wiP l i r k = if k ≤ i then l.take k else l.take i ++ r :: (l.take k).drop i
  | 0 => by simp [wiP]
  | k + 1 => by
    have ih := wiP_eq l i r k
    have ht : l.take (k + 1) = l.take k ++ (l[k]?).toList := List.take_add_one
    unfold wiP
    rw [ih]
    by_cases h1 : k = i
    · subst h1
      rw [if_pos rfl, if_pos (Nat.le_refl _), if_neg (by omega), ht, List.drop_append]
      have e : (l.take k).drop k = [] := List.drop_eq_nil_of_le (by rw [List.length_take]; omega)
      rw [e, List.append_assoc]
      by_cases hk : k < l.length
      · rw [List.length_take, Nat.min_eq_left (by omega), Nat.sub_self]; simp
      · rw [List.getElem?_eq_none (by omega)]; simp
    · have h1' : ¬ (k : Int) = i := by omega
      rw [if_neg h1', List.append_nil]
      by_cases h2 : k ≤ i
      · rw [if_pos h2, if_pos (by omega), ht]
      · rw [if_neg h2, if_neg (by omega), ht, List.append_assoc]
        congr 1
        rw [List.cons_append]
        congr 1
        by_cases hk : k < l.length
        · rw [List.drop_append_of_le_length (by rw [List.length_take]; omega)]
        · rw [List.getElem?_eq_none (by omega)]; simp
theorem wiP_all {l : List Mr} {i : Nat} (r : Mr) (h : i ≤ l.length) : wiP l i r (l.length + 1) = l.take i ++ r :: l.drop i := by
  rw [wiP_eq, if_neg (by omega), List.take_of_length_le (by omega : l.length ≤ l.length + 1)]
set_option maxHeartbeats 1600000 in
theorem without_any (v : Value) (l : List Mr) (at0 : Int) (w : World) (h : IsMr w v l) (hl : l.length ≤ 100000) (hi1 : -9223372036854775808 ≤ at0) (hi2 : at0 ≤ 9223372036854775807) :
    Calls Try.prog 54 #[v, .int .i64 at0] w fun e w' => ∃ v', e = .returned v' ∧ IsMr w' v' (woP l at0 l.length) ∧ Below w.heap.size w w' := by
  obtain ⟨a, c, rfl, -, -, -⟩ := id h.1
  obtain ⟨-, hc, hm, hx⟩ := h.1.at
  obtain ⟨m, hmE⟩ : ∃ m, m = l.length := ⟨_, rfl⟩
  rw [← hmE] at hc hx hl ⊢
  have Hx := Lib.hid hx
  have Hm := Lib.hid hmE
  have Hrr := Lib.hid h.2
  clear h hx hmE
  go_enter Try.func54, Try.ntmps54
  go_wp2
  go_loopw [5, 6] (fun ov iv wr => ∃ k : Nat, k ≤ m ∧ iv = .int .i64 k ∧ ∃ xa rl xc, ov = .slice xa rl xc ∧ OwnM15 wr w.heap.size (.slice xa rl xc) (woP l at0 k) ∧ rl ≤ k ∧ Below w.heap.size w wr) (fun _ iv _ => m - (intOf iv).toNat)
  case atStart => exact ⟨0, Nat.zero_le _, rfl, none, 0, 0, rfl, World.ownsRow_nil _ _ _ _, Nat.le_refl _, Below.refl _ _⟩
  case round =>
    obtain ⟨wo, rfl⟩ : ∃ wo : World, wo = wr := ⟨_, rfl⟩
    obtain ⟨k, hk, rfl, xa, rl, xc, rfl, hown, hrl, hb⟩ := hrel
    by_cases hkm : k < m
    · by_cases hat : (k : Int) = at0
      · have hwo : woP l at0 (k + 1) = woP l at0 k := by rw [woP, if_pos hat]
        have Hwo := Lib.hid hwo
        have Hown := Lib.hid hown
        have Hb := Lib.hid hb
        have hat2 : ((k : Int) != at0) = false := by simpa using hat
        clear hwo hown hb hat
        go_wp2
        go_roundw
        case rel => exact ⟨k + 1, by omega, by go_num, xa, rl, xc, rfl, by rw [Hwo.out]; exact Hown.out, by omega, Hb.out⟩
        case measure => simp [intOf]; omega
      · have hat2 : ((k : Int) != at0) = true := by simpa using hat
        obtain ⟨b, off, rfl, hcell⟩ := Hx.out (by omega)
        obtain ⟨r, hr⟩ : ∃ r, l[k]? = some r := ⟨_, List.getElem?_eq_getElem (by rw [← Hm.out]; exact hkm)⟩
        have hrr := Hrr.out r (List.mem_of_getElem? hr)
        have h1 := mrC_one' hrr
        have hrow := fun (W : World) (hW : Below w.heap.size w W) => IsMr.row (w := W) (fun i x hi j y hj => (hW.cell (block_lt_of_cell (hcell i x hi j y hj))).trans (hcell i x hi j y hj)) hr
        have hwo : woP l at0 (k + 1) = woP l at0 k ++ [r] := by rw [woP, if_neg hat, hr]; rfl
        obtain ⟨d0, d1, d2, d3, d4, d5, d6, d7, d8⟩ := hrow wo hb
        obtain ⟨ra, rc, hrv, -, -, -⟩ := id hrr
        obtain ⟨⟨z, n, ⟨au, asq, ak⟩, ⟨bu, bsq, bk⟩, refs⟩, vr⟩ := r
        dsimp only at d0 d1 d2 d3 d4 d5 d6 d7 d8 hrv
        obtain ⟨rn, hrn⟩ : ∃ rn, rn = refs.length := ⟨_, rfl⟩
        rw [← hrn] at hrv
        subst hrv
        obtain ⟨ya, yc, w2, hrun, hown2, hg2⟩ := push_m15 wo w.heap.size xa rl xc (woP l at0 k) _ hown h1 (by omega) hb.size [.int .i64 z, .int .i64 n, .string au, .int .i64 asq, .int .i64 ak, .string bu, .int .i64 bsq, .int .i64 bk, .slice ra rn rc] rfl
        have hb2 := push_below hb hown hg2 (Nat.le_refl _) hb.size
        have Hwo := Lib.hid hwo
        have Hown := Lib.hid hown2
        have Hb := Lib.hid hb2
        clear hwo hown hb hat hr hrr h1 hrow hcell hown2 hb2 hg2 hrn
        go_wp2_with (at_builtin; first | (refine wpList_val rfl _ _ (run_append_op (.tmp 16) (.tmp 21) 58 58 rfl rfl rfl hrun) ?_) | (refine wpList_val rfl _ _ (run_append_op (.tmp 16) (.tmp 21) 58 58 rfl (by simp) (by simp) hrun) ?_))
        go_roundw
        case rel => exact ⟨k + 1, by omega, by go_num, ya, rl + 1, yc, rfl, by rw [Hwo.out]; exact Hown.out, by omega, Hb.out⟩
        case measure => simp [intOf]; omega
    · obtain rfl : k = m := by omega
      have Hown := Lib.hid hown
      have Hb := Lib.hid hb
      clear hown hb
      go_wp2
      go_ret
      have hown := Hown.out
      rw [own_n hown]
      rw [own_n hown] at hown
      exact ⟨_, rfl, ⟨isSl_own mrC_len hown, fun x hx => (Hrr.out x (woP_mem hx)).below Hb.out⟩, Hb.out⟩
theorem IsRr.bel {B : Nat} {w W : World} {v : Value} {l : List (Int × Int)} (h : IsRr w v l) (hb : Below w.heap.size w W) : IsRr W v l := h.below hb
set_option maxHeartbeats 3200000 in
theorem with_any (v : Value) (l : List Mr) (at0 : Int) (q : Mr) (w : World) (h : IsMr w v l) (hq : IsRr w q.2 q.1.refs) (hl : l.length ≤ 100000) :
    Calls Try.prog 55 #[v, .int .i64 at0, .agg (mrC q).toArray] w fun e w' => ∃ v', e = .returned v' ∧ IsMr w' v' (wiP l at0 q (l.length + 1)) ∧ Below w.heap.size w w' := by
  obtain ⟨a, c, rfl, -, -, -⟩ := id h.1
  obtain ⟨-, hc, hm, hx⟩ := h.1.at
  obtain ⟨m, hmE⟩ : ∃ m, m = l.length := ⟨_, rfl⟩
  rw [← hmE] at hc hx hl ⊢
  have Hx := Lib.hid hx
  have Hm := Lib.hid hmE
  have Hrr := Lib.hid h.2
  have Hq1 := Lib.hid (mrC_one' hq)
  have Hq := Lib.hid hq
  obtain ⟨qa, qc, hqv, -, -, -⟩ := id hq
  obtain ⟨qr, hqr⟩ : ∃ qr, qr = q := ⟨_, rfl⟩
  rw [← hqr] at Hq1 Hq ⊢
  have hqv2 : qr.2 = .slice qa q.1.refs.length qc := by rw [hqr]; exact hqv
  generalize q.1.refs.length = qn at hqv2
  clear h hx hmE hq hqv hqr
  obtain ⟨hD⟩ : Nonempty (Hid (mrC qr = [.int .i64 qr.1.z, .int .i64 qr.1.n, .string qr.1.a.u, .int .i64 qr.1.a.s, .int .i64 qr.1.a.k, .string qr.1.b.u, .int .i64 qr.1.b.s, .int .i64 qr.1.b.k, .slice qa qn qc])) := ⟨Lib.hid (by unfold mrC; rw [hqv2])⟩
  rw [hD.out]
  clear hqv2
  have hbk := blk_of_alloc w (.cells #[.int .i64 qr.1.z, .int .i64 qr.1.n, .string qr.1.a.u, .int .i64 qr.1.a.s, .int .i64 qr.1.a.k, .string qr.1.b.u, .int .i64 qr.1.b.s, .int .i64 qr.1.b.k, .slice qa qn qc] 35)
  have Hbk := Lib.hid hbk
  clear hbk
  go_enter Try.func55, Try.ntmps55
  go_wp2
  go_loopw [7, 8] (fun ov iv wr => ∃ k : Nat, k ≤ m + 1 ∧ iv = .int .i64 k ∧ ∃ xa rl xc, ov = .slice xa rl xc ∧ OwnM15 wr (w.heap.size + 1) (.slice xa rl xc) (wiP l at0 qr k) ∧ rl ≤ 2 * k ∧ Below w.heap.size w wr ∧ wr.heap[w.heap.size]? = some (.cells #[.int .i64 qr.1.z, .int .i64 qr.1.n, .string qr.1.a.u, .int .i64 qr.1.a.s, .int .i64 qr.1.a.k, .string qr.1.b.u, .int .i64 qr.1.b.s, .int .i64 qr.1.b.k, .slice qa qn qc] 35 (0, 0))) (fun _ iv _ => m + 1 - (intOf iv).toNat)
  case atStart => exact ⟨0, Nat.zero_le _, rfl, none, 0, 0, rfl, World.ownsRow_nil _ _ _ _, Nat.le_refl _, (Below.refl _ _).alloc (Nat.le_refl _) _, Hbk.out⟩
  case round =>
    obtain ⟨wo, rfl⟩ : ∃ wo : World, wo = wr := ⟨_, rfl⟩
    obtain ⟨k, hk, rfl, xa, rl, xc, rfl, hown, hrl, hb, hbq⟩ := hrel
    have hs := blk_lt hbq
    have q0 := (cell_of_blk hbq 0).trans (show _ = some (.int .i64 qr.1.z) from rfl)
    have q1 := (cell_of_blk hbq 1).trans (show _ = some (.int .i64 qr.1.n) from rfl)
    have q2 := (cell_of_blk hbq 2).trans (show _ = some (.string qr.1.a.u) from rfl)
    have q3 := (cell_of_blk hbq 3).trans (show _ = some (.int .i64 qr.1.a.s) from rfl)
    have q4 := (cell_of_blk hbq 4).trans (show _ = some (.int .i64 qr.1.a.k) from rfl)
    have q5 := (cell_of_blk hbq 5).trans (show _ = some (.string qr.1.b.u) from rfl)
    have q6 := (cell_of_blk hbq 6).trans (show _ = some (.int .i64 qr.1.b.s) from rfl)
    have q7 := (cell_of_blk hbq 7).trans (show _ = some (.int .i64 qr.1.b.k) from rfl)
    have q8 := (cell_of_blk hbq 8).trans (show _ = some (.slice qa qn qc) from rfl)
    by_cases hkm1 : k = m + 1
    · subst hkm1
      have Hown := Lib.hid hown
      have Hb := Lib.hid hb
      clear hown hb hbq q0 q1 q2 q3 q4 q5 q6 q7 q8
      have hgt : ¬ ((m : Int) + 1 ≤ m) := by omega
      go_wp2
      go_ret
      have hown := Hown.out
      rw [own_n hown]
      rw [own_n hown] at hown
      refine ⟨_, rfl, ⟨isSl_own mrC_len hown, fun x hx => ?_⟩, Hb.out⟩
      rcases wiP_mem hx with rfl | hx
      · exact Hq.out.below Hb.out
      · exact (Hrr.out x hx).below Hb.out
    · have hkle : k ≤ m := by omega
      clear hkm1
      by_cases hat : (k : Int) = at0
      · have hat2 : ((k : Int) == at0) = true := by simpa using hat
        obtain ⟨ya, yc, w2, hrun, hown2, hg2⟩ := push_m15 wo (w.heap.size + 1) xa rl xc (wiP l at0 qr k) qr hown (by intro u hu; exact Hq1.out u hu) (by omega) hs [.int .i64 qr.1.z, .int .i64 qr.1.n, .string qr.1.a.u, .int .i64 qr.1.a.s, .int .i64 qr.1.a.k, .string qr.1.b.u, .int .i64 qr.1.b.s, .int .i64 qr.1.b.k, .slice qa qn qc] hD.out.symm
        have hb2 := push_below hb hown hg2 (by omega) hs
        have hbq2 := push_blk hown hg2 (by omega) hbq
        have hs2 := blk_lt hbq2
        clear hb hown hg2 hbq hs
        have hs : w.heap.size + 1 ≤ w2.heap.size := hs2
        have hb := hb2
        have hown := hown2
        have hbq := hbq2
        clear hb2 hown2 hbq2 hs2
        by_cases hkm : k < m
        · obtain ⟨b, off, rfl, hcell⟩ := Hx.out (by omega)
          obtain ⟨r, hr⟩ : ∃ r, l[k]? = some r := ⟨_, List.getElem?_eq_getElem (by rw [← Hm.out]; exact hkm)⟩
          have hrr := Hrr.out r (List.mem_of_getElem? hr)
          have h1 := mrC_one' hrr
          have hrow := fun (W : World) (hW : Below w.heap.size w W) => IsMr.row (w := W) (fun i x hi j y hj => (hW.cell (block_lt_of_cell (hcell i x hi j y hj))).trans (hcell i x hi j y hj)) hr
          have hwo : wiP l at0 qr (k + 1) = wiP l at0 qr k ++ [qr] ++ [r] := by rw [wiP, if_pos hat, hr]; rfl
          obtain ⟨d0, d1, d2, d3, d4, d5, d6, d7, d8⟩ := hrow w2 hb
          obtain ⟨ra, rc, hrv, -, -, -⟩ := id hrr
          obtain ⟨⟨z, n, ⟨au, asq, ak⟩, ⟨bu, bsq, bk⟩, refs⟩, vr⟩ := r
          dsimp only at d0 d1 d2 d3 d4 d5 d6 d7 d8 hrv
          obtain ⟨rn, hrn⟩ : ∃ rn, rn = refs.length := ⟨_, rfl⟩
          rw [← hrn] at hrv
          subst hrv
          obtain ⟨ya2, yc2, w3, hrun2, hown3, hg3⟩ := push_m15 w2 (w.heap.size + 1) ya (rl + 1) yc (wiP l at0 qr k ++ [qr]) _ hown h1 (by omega) hs [.int .i64 z, .int .i64 n, .string au, .int .i64 asq, .int .i64 ak, .string bu, .int .i64 bsq, .int .i64 bk, .slice ra rn rc] rfl
          have hb3 := push_below hb hown hg3 (by omega) hs
          have hbq3 := push_blk hown hg3 (by omega) hbq
          have Hwo := Lib.hid hwo
          have Hown := Lib.hid hown3
          have Hb := Lib.hid hb3
          have Hbq := Lib.hid hbq3
          clear hwo hown hb hat hr hrr h1 hrow hcell hown3 hb3 hg3 hrn hbq hbq3
          go_wp2_with (at_builtin; first | (refine wpList_val rfl _ _ (run_append_op (.tmp 18) (.tmp 20) 58 58 rfl rfl rfl hrun) ?_) | (refine wpList_val rfl _ _ (run_append_op (.tmp 18) (.tmp 20) 58 58 rfl (by simp) (by simp) hrun) ?_) | (refine wpList_val rfl _ _ (run_append_op (.tmp 26) (.tmp 31) 58 58 rfl rfl rfl hrun2) ?_) | (refine wpList_val rfl _ _ (run_append_op (.tmp 26) (.tmp 31) 58 58 rfl (by simp) (by simp) hrun2) ?_))
          go_roundw
          case rel => exact ⟨k + 1, by omega, by go_num, ya2, rl + 1 + 1, yc2, rfl, by rw [Hwo.out]; exact Hown.out, by omega, Hb.out, Hbq.out⟩
          case measure => simp [intOf]; omega
        · obtain rfl : k = m := by omega
          have hwo : wiP l at0 qr (k + 1) = wiP l at0 qr k ++ [qr] := by rw [wiP, if_pos hat, List.getElem?_eq_none (by rw [← Hm.out]; exact Nat.le_refl _)]; simp
          have Hwo := Lib.hid hwo
          have Hown := Lib.hid hown
          have Hb := Lib.hid hb
          have Hbq := Lib.hid hbq
          clear hwo hown hb hat hbq
          go_wp2_with (at_builtin; first | (refine wpList_val rfl _ _ (run_append_op (.tmp 18) (.tmp 20) 58 58 rfl rfl rfl hrun) ?_) | (refine wpList_val rfl _ _ (run_append_op (.tmp 18) (.tmp 20) 58 58 rfl (by simp) (by simp) hrun) ?_))
          go_roundw
          case rel => exact ⟨k + 1, by omega, by go_num, ya, rl + 1, yc, rfl, by rw [Hwo.out]; exact Hown.out, by omega, Hb.out, Hbq.out⟩
          case measure => simp [intOf]
      · have hat2 : ((k : Int) == at0) = false := by simpa using hat
        clear hD
        by_cases hkm : k < m
        · obtain ⟨b, off, rfl, hcell⟩ := Hx.out (by omega)
          obtain ⟨r, hr⟩ : ∃ r, l[k]? = some r := ⟨_, List.getElem?_eq_getElem (by rw [← Hm.out]; exact hkm)⟩
          have hrr := Hrr.out r (List.mem_of_getElem? hr)
          have h1 := mrC_one' hrr
          have hrow := fun (W : World) (hW : Below w.heap.size w W) => IsMr.row (w := W) (fun i x hi j y hj => (hW.cell (block_lt_of_cell (hcell i x hi j y hj))).trans (hcell i x hi j y hj)) hr
          have hwo : wiP l at0 qr (k + 1) = wiP l at0 qr k ++ [r] := by rw [wiP, if_neg hat, List.append_nil, hr]; rfl
          obtain ⟨d0, d1, d2, d3, d4, d5, d6, d7, d8⟩ := hrow wo hb
          obtain ⟨ra, rc, hrv, -, -, -⟩ := id hrr
          obtain ⟨⟨z, n, ⟨au, asq, ak⟩, ⟨bu, bsq, bk⟩, refs⟩, vr⟩ := r
          dsimp only at d0 d1 d2 d3 d4 d5 d6 d7 d8 hrv
          obtain ⟨rn, hrn⟩ : ∃ rn, rn = refs.length := ⟨_, rfl⟩
          rw [← hrn] at hrv
          subst hrv
          obtain ⟨ya2, yc2, w3, hrun2, hown3, hg3⟩ := push_m15 wo (w.heap.size + 1) xa (rl) xc (wiP l at0 qr k) _ hown h1 (by omega) hs [.int .i64 z, .int .i64 n, .string au, .int .i64 asq, .int .i64 ak, .string bu, .int .i64 bsq, .int .i64 bk, .slice ra rn rc] rfl
          have hb3 := push_below hb hown hg3 (by omega) hs
          have hbq3 := push_blk hown hg3 (by omega) hbq
          have Hwo := Lib.hid hwo
          have Hown := Lib.hid hown3
          have Hb := Lib.hid hb3
          have Hbq := Lib.hid hbq3
          clear hwo hown hb hat hr hrr h1 hrow hcell hown3 hb3 hg3 hrn hbq hbq3
          go_wp2_with (at_builtin; first  | (refine wpList_val rfl _ _ (run_append_op (.tmp 26) (.tmp 31) 58 58 rfl rfl rfl hrun2) ?_) | (refine wpList_val rfl _ _ (run_append_op (.tmp 26) (.tmp 31) 58 58 rfl (by simp) (by simp) hrun2) ?_))
          go_roundw
          case rel => exact ⟨k + 1, by omega, by go_num, ya2, rl + 1, yc2, rfl, by rw [Hwo.out]; exact Hown.out, by omega, Hb.out, Hbq.out⟩
          case measure => simp [intOf]; omega
        · obtain rfl : k = m := by omega
          have hwo : wiP l at0 qr (k + 1) = wiP l at0 qr k := by rw [wiP, if_neg hat, List.append_nil, List.getElem?_eq_none (by rw [← Hm.out]; exact Nat.le_refl _)]; simp
          have Hwo := Lib.hid hwo
          have Hown := Lib.hid hown
          have Hb := Lib.hid hb
          have Hbq := Lib.hid hbq
          clear hwo hown hb hat hbq
          go_wp2
          go_roundw
          case rel => exact ⟨k + 1, by omega, by go_num, xa, rl, xc, rfl, by rw [Hwo.out]; exact Hown.out, by omega, Hb.out, Hbq.out⟩
          case measure => simp [intOf]
end Go.Proofs.Ytjefpogeknbelaa.Tithe
