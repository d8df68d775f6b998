/- What LevelsFinds asks, plain; its argument's reading. -/
import Derived.Test.YtjefpogeknbelaaLevelsPlays
import Derived.Test.YtjefpogeknbelaaRefOver
import Derived.Test.YtjefpogeknbelaaLevLive
import Derived.Test.YtjefpogeknbelaaLevUndoP
namespace Go.Proofs.Ytjefpogeknbelaa.Tithe
open Go.RowKit Go.ChangeShapes Go.WideShapes Go.ChangeAt
set_option linter.unusedVariables false
set_option maxRecDepth 100000
theorem index_vx (V : Vn) {n : Nat} (h : n < 4) (W : World) : (Instr.index 59 (.agg #[V.v 0, V.v 1, V.v 2, V.v 3]) (.int .i64 n)).run Try.prog W = .ok (V.v n) W := by
  match n, h with
  | 0, _ => rfl
  | 1, _ => rfl
  | 2, _ => rfl
  | 3, _ => rfl
def deepX (l : Nat → List Mr) (N : Int) (u : ByteArray) : Nat → Bool
  | 0 => false
  | n + 1 => deepX l N u n || (decide (N < n) && decide (0 < ((tabs l 4).filter (overB (n : Int) u u)).length))
theorem deepX_iff (l : Nat → List Mr) (N : Int) (u : ByteArray) : ∀ k, deepX l N u k = true ↔ ∃ n : Nat, n < k ∧ N < n ∧ ∃ p ∈ tabs l 4, overB (n : Int) u u p = true
  | 0 => by simp [deepX]
  | k + 1 => by
    unfold deepX
    rw [Bool.or_eq_true, deepX_iff l N u k, Bool.and_eq_true, decide_eq_true_eq, decide_eq_true_eq, List.length_pos_iff_exists_mem]
    constructor
    · rintro (⟨n, h1, h2⟩ | ⟨h1, p, hp⟩)
      · exact ⟨n, by omega, h2⟩
      · exact ⟨k, by omega, h1, p, (List.mem_filter.1 hp).1, (List.mem_filter.1 hp).2⟩
    · rintro ⟨n, h1, h2, p, hp, ho⟩
      by_cases e : n = k
      · subst e; exact .inr ⟨h2, p, List.mem_filter.2 ⟨hp, ho⟩⟩
      · exact .inl ⟨n, by omega, h2, p, hp, ho⟩
theorem deepX_all (l : Nat → List Mr) (N : Int) (u : ByteArray) : deepX l N u 4 = deepB (tabs l 4) N u := by
  rw [Bool.eq_iff_iff, deepX_iff]
  unfold deepB
  rw [List.any_eq_true]
  constructor
  · rintro ⟨n, h1, h2, p, hp, ho⟩
    unfold overB at ho
    simp only [Bool.and_eq_true, decide_eq_true_eq] at ho
    refine ⟨p, hp, ?_⟩
    unfold coverB
    simp only [Bool.and_eq_true, decide_eq_true_eq]
    exact ⟨by omega, ho.2.2⟩
  · rintro ⟨p, hp, ho⟩
    unfold coverB at ho
    simp only [Bool.and_eq_true, decide_eq_true_eq] at ho
    refine ⟨p.1, (tabs_mem hp).1, ho.1, p, hp, ?_⟩
    unfold overB
    simp only [Bool.and_eq_true, decide_eq_true_eq]
    exact ⟨trivial, by rw [cmpB_self]; omega, ho.2⟩
section
variable {l l' : Nat → List Mr}
theorem pt_eq {L : Lv} (h : LvE (lvOf l) L) (h' : LvE (lvOf l') L) : ptab l 4 = ptab l' 4 := ptab_congr 4 (fun m hm => (h m hm).trans (h' m hm).symm)
theorem deepB_pt (l : Nat → List Mr) (N : Int) (u : ByteArray) : deepB (tabs l 4) N u = (ptab l 4).any fun p => decide (N < (p.1 : Int)) && coverB p.2.a p.2.b u := by
  unfold deepB ptab; rw [List.any_map]; rfl
theorem deep_eq (h : ptab l 4 = ptab l' 4) (N : Int) (u : ByteArray) : deepX l' N u 4 = deepB (tabs l 4) N u := by
  rw [deepX_all, deepB_pt, deepB_pt, h]
theorem tabs_pt (l : Nat → List Mr) : (tabs l 4).map (·.2.1) = (ptab l 4).map (·.2) := by unfold ptab; rw [List.map_map]; rfl
theorem tabs_eq (h : ptab l 4 = ptab l' 4) : (tabs l 4).map (·.2.1) = ((tabs l' 4).map (·.2)).map (·.1) := by
  rw [List.map_map, tabs_pt, h, ← tabs_pt]; rfl
theorem over_ptab' (l : Nat → List Mr) (lv : Int) (sm lg : ByteArray) : ((tabs l 4).filter (overB lv sm lg)).map (·.2.1) = ((ptab l 4).filter (ptabP lv sm lg)).map (·.2) := over_ptab l lv sm lg
theorem over_eq (h : ptab l 4 = ptab l' 4) (lv : Int) (s g : ByteArray) : ((tabs l 4).filter (overB lv s g)).map (·.2.1) = ((tabs l' 4).filter (overB lv s g)).map (·.2.1) := by
  rw [over_ptab', over_ptab', h]
theorem liveT_congr (z : Int) : ∀ (ts ts' : List (Nat × Mr)), ts.map (·.2.1) = ts'.map (·.2.1) → liveT z ts = liveT z ts'
  | [], [], _ => rfl
  | [], _ :: _, h => by simp at h
  | _ :: _, [], h => by simp at h
  | p :: t, q :: t', h => by
    simp only [List.map_cons, List.cons.injEq] at h
    simp only [liveT]
    rw [h.1, liveT_congr z t t' h.2]
theorem live_eq (h : ptab l 4 = ptab l' 4) (z : Int) : liveT z (tabs l 4) = liveT z (tabs l' 4) := liveT_congr z _ _ (by rw [tabs_pt, tabs_pt, h])
theorem hasT_no {L : Lv} (h : LvE (lvOf l) L) {z : Int} (hp : hasP L z = none) : hasT (tabs l 4) z = none := by
  rw [← hasP_congr h z] at hp
  rcases hasF_tabs l z with ⟨-, q⟩ | ⟨n', i', -, q, -⟩
  · exact q
  · rw [hp] at q; cases q
theorem tabs_rows_succ (l : Nat → List Mr) (n : Nat) : (tabs l (n + 1)).map (·.2) = (tabs l n).map (·.2) ++ l n := by
  show (tabs l n ++ (l n).map fun r => (n, r)).map (·.2) = _
  rw [List.map_append, List.map_map]
  congr 1
  exact List.map_id _
theorem rows_mem {l : Nat → List Mr} {n : Nat} {r : Mr} (h : r ∈ (tabs l n).map (·.2)) : ∃ k, k < n ∧ r ∈ l k := by
  obtain ⟨p, hp, rfl⟩ := List.mem_map.1 h
  exact ⟨p.1, tabs_mem hp⟩
end
/-! ### the argument -/
section
variable {H : Type} {enc : TypeId × Value → H} {w : World} {base : Nat} {sp : Nat → Bool} {held : Bool}
theorem sought_row (m : Nat) (row : List Value) (y : DataW H × List MemPlace) (h : DataW.trod enc Try.prog w base sp held m 67 row = some y) : ∃ (v : Value) (l : List Ed) (a b : ByteArray) (n : Int), row = [v, .string a, .string b, .int .i64 n] ∧ IsEd w v l := by
  obtain ⟨xs, n, _, _, hl, hxl, hf⟩ := DataW.trod_struct Try.underlying67 h
  have hl2 : row.length = 4 := hl.trans (by kernel_rfl)
  match row, hl2 with
  | [c0, c1, c2, c3], _ =>
    have f0 := hf 0 _ rfl
    have f1 := hf 1 _ rfl
    have f2 := hf 2 _ rfl
    have f3 := hf 3 _ rfl
    have hx : xs.length = 4 := hxl
    rw [List.getElem?_eq_getElem (by omega)] at f0 f1 f2 f3
    obtain ⟨v, l, e0, hi, hi2⟩ := isSl_cellsQ edC (EdIn w) 2 (by decide) edC_len Try.underlying39 (by kernel_rfl) ed_in f0
    obtain ⟨a, e1, -, -⟩ := DataW.trod_string Try.underlying9 f1
    obtain ⟨b, e2, -, -⟩ := DataW.trod_string Try.underlying9 f2
    obtain ⟨n3, e3, -, -⟩ := DataW.trod_int Try.underlying3 f3
    have k0 : Try.prog.cellsOf 39 = 1 := by kernel_rfl
    have k1 : Try.prog.cellsOf 9 = 1 := by kernel_rfl
    simp [k0, k1, k1i] at e0 e1 e2 e3
    subst e0 e1 e2 e3
    exact ⟨_, l, a, b, n3, rfl, hi, hi2⟩
end
theorem sought_in {H : Type} {enc : TypeId × Value → H} {w : World} {base : Nat} {v : Value} {d : DataW H} {p : List MemPlace}
    (hv : Value.okWide Try.prog w .any base 67 v) (h : DataW.Trod enc Try.prog w 0 (fun _ => true) true 67 v d p) : ∃ (u : Value) (l : List Ed) (a b : ByteArray) (n : Int), v = .agg #[u, .string a, .string b, .int .i64 n] ∧ IsEd w u l := by
  obtain ⟨cs, m, rfl, hf⟩ := agg_row Try.underlying67 hv h
  obtain ⟨u, l, a, b, n, e, hr⟩ := sought_row _ _ _ hf
  exact ⟨u, l, a, b, n, by rw [show cs = #[u, .string a, .string b, .int .i64 n] from Array.toList_inj.1 e], hr⟩
end Go.Proofs.Ytjefpogeknbelaa.Tithe
