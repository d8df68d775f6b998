/- The document's lists of tables, one taken out, one put in: walked. -/
import Derived.Test.YtcmndnglmpkpdaaDoorLevTurn
namespace Go.Proofs.YtcmndnglmpkpdaaDoor.Tithe
open Go.RowKit Go.Sort Go.Shelf
set_option linter.unusedVariables false
set_option linter.unusedSimpArgs false
set_option maxRecDepth 100000
theorem mt15Info3 : (Tryd.prog.info? 73).map (fun i => (i.zero, i.size, i.bytes)) = some (some (.agg #[.int .i64 0, .int .i64 0, .string ⟨#[]⟩, .int .i64 0, .int .i64 0, .string ⟨#[]⟩, .int .i64 0, .int .i64 0, .slice none 0 0]), 9, 104) := by kernel_rfl
abbrev OwnM15 (W : World) (base : Nat) (v : Value) (rows : List Mr) : Prop := W.ownsRow base 73 9 v rows.length (flat mrC rows)
theorem mrC_one' {r : Mr} {W : World} {l : List (Int × Int)} (h : IsRr W r.2 l) : ∀ u ∈ mrC r, u.oneCell' = true := by
  obtain ⟨a, c, e, -⟩ := h
  intro u hu
  simp only [mrC, List.mem_cons, List.not_mem_nil, or_false] at hu
  rcases hu with rfl | rfl | rfl | rfl | rfl | rfl | rfl | rfl | rfl
  all_goals first | rfl | (rw [e]; rfl)
theorem push_m15 (W0 : World) (base : Nat) (xa : Option Addr) (rl xc : Nat) (rows : List Mr) (r : Mr) (h : OwnM15 W0 base (.slice xa rl xc) rows) (h1 : ∀ u ∈ mrC r, u.oneCell' = true) (hl : rl ≤ 1000000) (hb : base ≤ W0.heap.size) (o : List Value) (ho : o = mrC r) :
    ∃ ya yc w2, (Builtin.append_ #[65, 65] 65 #[.slice xa rl xc, .slice (some ⟨W0.heap.size, 0, none⟩) 1 1]).run Tryd.prog (W0.alloc (.cells o.toArray 73)) = .ok (.slice ya (rl + 1) yc) w2 ∧
      OwnM15 w2 base (.slice ya (rl + 1) yc) (rows ++ [r]) ∧ (W0.alloc (.cells o.toArray 73)).grownBy w2 (Value.slice xa rl xc).ownBlock := by
  subst ho
  obtain ⟨i0, hi0, hz0, hz1, hz2⟩ := info_partsL mt15Info3
  have h' : OwnM15 (W0.alloc (.cells (mrC r).toArray 73)) base (.slice xa rl xc) rows := own_below h ((Below.refl _ _).alloc (Nat.le_refl _) _)
  have hrl : rl = rows.length := by
    rcases h.2 with ⟨e, h⟩ | ⟨g, cap, cur, e, -⟩
    · injection e with _ e _; rw [e, h]
    · injection e with _ e _
  obtain ⟨g, yc, w2, hrun, hown, hg, hlies, -⟩ := run_append_lies (P := Tryd.prog) (W0.alloc (.cells (mrC r).toArray 73)) 65 65 base 73 i0 (.agg #[.int .i64 0, .int .i64 0, .string ⟨#[]⟩, .int .i64 0, .int .i64 0, .string ⟨#[]⟩, .int .i64 0, .int .i64 0, .slice none 0 0]) 9 104 Tryd.underlying65 hi0 hz0 hz1 hz2 rfl (by decide)
    (.slice xa rl xc) rows.length (flat mrC rows) h' ⟨W0.heap.size, 0, none⟩ 1 1 (mrC r) rfl (newsL _ _ rfl _ _ rfl) h1 (by omega) (by unfold maxLen; omega) (by omega) (by simp; omega) _ rfl
  refine ⟨some ⟨g, 0, none⟩, yc, w2, by rw [hrl] at hrun ⊢; exact hrun, ?_, hg⟩
  rw [hrl]
  unfold OwnM15
  rw [List.length_append, flat_append, flat_one]
  exact hown
/-- what was below stays below -/
theorem push_below {w W0 w2 : World} {B base : Nat} {xa : Option Addr} {rl xc : Nat} {rows : List Mr} {ob : Obj} (hb : Below B w W0) (h : OwnM15 W0 base (.slice xa rl xc) rows) (hg : (W0.alloc ob).grownBy w2 (Value.slice xa rl xc).ownBlock) (hB : B ≤ base) (hs : base ≤ W0.heap.size) : Below B w w2 :=
  (hb.alloc (Nat.le_trans hB hs) _).grown hg (by rw [World.size_alloc]; omega) (fun g e => Nat.le_trans hB (h.lt g e).1)
theorem push_blk {W0 w2 : World} {base b : Nat} {xa : Option Addr} {rl xc : Nat} {rows : List Mr} {ob x : Obj} (h : OwnM15 W0 base (.slice xa rl xc) rows) (hg : (W0.alloc ob).grownBy w2 (Value.slice xa rl xc).ownBlock) (hlt : b < base) (hx : W0.heap[b]? = some x) : w2.heap[b]? = some x :=
  (hg.block b (blk_lt (blk_old hx ob)) (fun e => by have := (h.lt b e.symm).1; omega)).trans (blk_old hx ob)
/-- the list without one -/
def woP (l : List Mr) (at0 : Int) : Nat → List Mr
  | 0 => []
  | k + 1 => if (k : Int) = at0 then woP l at0 k else woP l at0 k ++ (l[k]?).toList
theorem woP_len (l : List Mr) (at0 : Int) : ∀ k, (woP l at0 k).length ≤ k
  | 0 => Nat.le_refl _
  | k + 1 => by
    have := woP_len l at0 k
    unfold woP
    split
    · omega
    · rw [List.length_append]
      cases l[k]? <;> simp <;> omega
theorem woP_eq (l : List Mr) (i : Nat) : ∀ k, k ≤ l.length → woP l i k = if k ≤ i then l.take k else (l.take k).eraseIdx i
  | 0, _ => by simp [woP]
  | k + 1, hk => by
    have ih := woP_eq l i k (by omega)
    have hx : l[k]? = some l[k] := List.getElem?_eq_getElem (by omega)
    have ht : l.take (k + 1) = l.take k ++ [l[k]] := by rw [List.take_add_one, hx]; rfl
    unfold woP
    rw [ih, hx, ht]
    by_cases h1 : k = i
    · subst h1
      rw [if_pos rfl, if_pos (Nat.le_refl _), if_neg (by omega), List.eraseIdx_append_of_length_le (by rw [List.length_take]; omega), List.length_take, Nat.min_eq_left (by omega), Nat.sub_self]; simp
    · rw [if_neg (by omega)]
      by_cases h2 : k ≤ i
      · rw [if_pos h2, if_pos (by omega)]; rfl
      · rw [if_neg h2, if_neg (by omega), List.eraseIdx_append_of_lt_length (by rw [List.length_take]; omega)]; rfl
theorem woP_all {l : List Mr} {i : Nat} (h : i < l.length) : woP l i l.length = l.eraseIdx i := by
  rw [woP_eq l i _ (Nat.le_refl _), if_neg (by omega), List.take_length]
theorem woP_mem {l : List Mr} {at0 : Int} {x : Mr} : ∀ {k : Nat}, x ∈ woP l at0 k → x ∈ l
  | 0, h => by cases h
  | k + 1, h => by
    unfold woP at h
    split at h
    · exact woP_mem h
    · rcases List.mem_append.1 h with h | h
      · exact woP_mem h
      · cases hk : l[k]? with
        | none => rw [hk] at h; cases h
        | some y => rw [hk] at h; rw [List.mem_singleton.1 h]; exact List.mem_of_getElem? hk
theorem own_n {W : World} {base : Nat} {e : TypeId} {size N n : Nat} {a : Option Addr} {c : Nat} {xs : List Value} (h : W.ownsRow base e size (.slice a n c) N xs) : n = N := by
  rcases h.2 with ⟨e, h⟩ | ⟨g, cap, cur, e, -⟩
  · injection e with _ e _; rw [e, h]
  · injection e with _ e _
/-- the list with one more -/
def wiP (l : List Mr) (at0 : Int) (r : Mr) : Nat → List Mr
  | 0 => []
  | k + 1 => (wiP l at0 r k ++ if (k : Int) = at0 then [r] else []) ++ (l[k]?).toList
theorem wiP_len (l : List Mr) (at0 : Int) (r : Mr) : ∀ k, (wiP l at0 r k).length ≤ 2 * k
  | 0 => Nat.le_refl _
  | k + 1 => by
    have := wiP_len l at0 r k
    unfold wiP
    rw [List.length_append, List.length_append]
    cases l[k]? <;> split <;> simp <;> omega
theorem wiP_mem {l : List Mr} {at0 : Int} {r x : Mr} : ∀ {k : Nat}, x ∈ wiP l at0 r k → x = r ∨ x ∈ l
  | 0, h => by cases h
  | k + 1, h => by
    unfold wiP at h
    rcases List.mem_append.1 h with h | h
    · rcases List.mem_append.1 h with h | h
      · exact wiP_mem h
      · split at h
        · exact .inl (List.mem_singleton.1 h)
        · cases h
    · cases hk : l[k]? with
      | none => rw [hk] at h; cases h
      | some y => rw [hk] at h; rw [List.mem_singleton.1 h]; exact .inr (List.mem_of_getElem? hk)
theorem wiP_eq (l : List Mr) (i : Nat) (r : Mr) : ∀ k, wiP l i r k = if k ≤ i then l.take k else l.take i ++ r :: (l.take k).drop i
  | 0 => by simp [wiP]
  | k + 1 => by
    have ih := wiP_eq l i r k
    have ht : l.take (k + 1) = l.take k ++ (l[k]?).toList := List.take_add_one
    unfold wiP
    rw [ih]
    by_cases h1 : k = i
    · subst h1
      rw [if_pos rfl, if_pos (Nat.le_refl _), if_neg (by omega), ht, List.drop_append]
      have e : (l.take k).drop k = [] := List.drop_eq_nil_of_le (by rw [List.length_take]; omega)
      rw [e, List.append_assoc]
      by_cases hk : k < l.length
      · rw [List.length_take, Nat.min_eq_left (by omega), Nat.sub_self]; simp
      · rw [List.getElem?_eq_none (by omega)]; simp
    · have h1' : ¬ (k : Int) = i := by omega
      rw [if_neg h1', List.append_nil]
      by_cases h2 : k ≤ i
      · rw [if_pos h2, if_pos (by omega), ht]
      · rw [if_neg h2, if_neg (by omega), ht, List.append_assoc]
        congr 1
        rw [List.cons_append]
        congr 1
        by_cases hk : k < l.length
        · rw [List.drop_append_of_le_length (by rw [List.length_take]; omega)]
        · rw [List.getElem?_eq_none (by omega)]; simp
theorem wiP_all {l : List Mr} {i : Nat} (r : Mr) (h : i ≤ l.length) : wiP l i r (l.length + 1) = l.take i ++ r :: l.drop i := by
  rw [wiP_eq, if_neg (by omega), List.take_of_length_le (by omega : l.length ≤ l.length + 1)]
theorem IsRr.bel {B : Nat} {w W : World} {v : Value} {l : List (Int × Int)} (h : IsRr w v l) (hb : Below w.heap.size w W) : IsRr W v l := h.below hb
end Go.Proofs.YtcmndnglmpkpdaaDoor.Tithe
