/- What is so between the writes of LevelsKeeps: numbers stay numbers, all else stays as it was. -/
import Derived.Test.YtjefpogeknbelaaLevelsUndo
namespace Go.Proofs.Ytjefpogeknbelaa.Tithe
open Go.RowKit Go.Sort Go.Shelf
set_option linter.unusedVariables false
structure IStep (base : Nat) (W W' : World) : Prop where
  int : ∀ a z, W.cell? a = some (.int .i64 z) → ∃ z', W'.cell? a = some (.int .i64 z')
  oth : ∀ a v, (∀ z, v ≠ .int .i64 z) → W.cell? a = some v → W'.cell? a = some v
  frz : ∀ a : Addr, a.block < W.heap.size → W'.frozen? a = W.frozen? a
  bel : Below base W W'
theorem IStep.refl (base : Nat) (W : World) : IStep base W W := ⟨fun _ z h => ⟨z, h⟩, fun _ _ _ h => h, fun _ _ => rfl, Below.refl _ _⟩
theorem IStep.trans {base : Nat} {W W' W'' : World} (h : IStep base W W') (k : IStep base W' W'') : IStep base W W'' :=
  ⟨fun a z q => by obtain ⟨z', q'⟩ := h.int a z q; exact k.int a z' q', fun a v hv q => k.oth a v hv (h.oth a v hv q), fun a q => (k.frz a (Nat.lt_of_lt_of_le q h.bel.size)).trans (h.frz a q), h.bel.trans k.bel⟩
theorem lt_of_cell {W : World} {a : Addr} {v : Value} (h : W.cell? a = some v) : a.block < W.heap.size := by
  unfold World.cell? at h
  rcases e : W.heap[a.block]? with _ | o
  · rw [e] at h; simp at h
  · exact (Array.getElem?_eq_some_iff.1 e).1
theorem IStep.of_below {base : Nat} {W W' : World} (h : Below W.heap.size W W') (hb : base ≤ W.heap.size) : IStep base W W' :=
  ⟨fun a z q => ⟨z, (h.cell (lt_of_cell q)).trans q⟩, fun a v _ q => (h.cell (lt_of_cell q)).trans q, fun a q => h.frozen q, h.mono hb⟩
theorem IStep.set {base : Nat} {W : World} {p : Addr} {z : Int} (x : Int) (h : W.cell? p = some (.int .i64 z)) (hb : base ≤ p.block) : IStep base W (W.setCell p (.int .i64 x)) := by
  refine ⟨fun a y q => ?_, fun a v hv q => ?_, fun a q => World.frozen?_setCell _ _ _ _, (Below.refl _ _).setCell hb _⟩
  · by_cases e : p = a
    · subst e; exact ⟨x, World.cell?_setCell_same _ _ _ h⟩
    · exact ⟨y, (World.cell?_setCell_other _ _ _ _ e).trans q⟩
  · by_cases e : p = a
    · subst e; rw [h] at q; injection q with q; exact absurd q.symm (hv z)
    · exact (World.cell?_setCell_other _ _ _ _ e).trans q
theorem IStep.slice {base : Nat} {W W' : World} (h : IStep base W W') {p : Addr} {a : Option Addr} {n c : Nat} (q : W.cell? p = some (.slice a n c)) : W'.cell? p = some (.slice a n c) := h.oth _ _ (fun z e => by cases e) q
theorem IStep.str {base : Nat} {W W' : World} (h : IStep base W W') {p : Addr} {s : ByteArray} (q : W.cell? p = some (.string s)) : W'.cell? p = some (.string s) := h.oth _ _ (fun z e => by cases e) q
theorem own_head {W : World} {base n k c : Nat} {a : Option Addr} {e : TypeId} {size : Nat} {xs : List Value} (h : W.ownsRow base e size (.slice a k c) n xs) (hp : 0 < k) : ∃ g, a = some ⟨g, 0, none⟩ ∧ base ≤ g ∧ g < W.heap.size ∧ ∀ o, W.frozen? ⟨g, o, none⟩ = false := by
  rcases h.2 with ⟨e, -⟩ | ⟨g, cap, cur, e, hb, hh, -⟩
  · injection e with e1 e2; omega
  · injection e with e1
    exact ⟨g, e1, hb, (Array.getElem?_eq_some_iff.1 hh).1, fun o => frozen_of_blk hh o⟩
/-- the k-th ref of a row -/
theorem ref_cell {W : World} {base : Nat} {a : Option Addr} {k c : Nat} {refs : List (Int × Int)} (h : W.ownsRow base 55 2 (.slice a k c) refs.length (flat rfC refs)) {j : Nat} (hj : j < k) :
    ∃ q, a = some ⟨q, 0, none⟩ ∧ base ≤ q ∧ q < W.heap.size ∧ (∃ z, W.cell? ⟨q, j * 2 + 1, none⟩ = some (.int .i64 z)) ∧ ∀ o, W.frozen? ⟨q, o, none⟩ = false := by
  obtain ⟨q, e, hb, hl, hf⟩ := own_head h (by omega)
  have hk := own_n h
  obtain ⟨-, -, -, hx⟩ := (isSl_own rfC_len h).at
  obtain ⟨b, off, e', hc⟩ := hx (by omega)
  rw [e] at e'
  injection e' with e'
  injection e' with e1 e2
  subst e1 e2
  obtain ⟨r, hr⟩ : ∃ r, refs[j]? = some r := ⟨_, List.getElem?_eq_getElem (by omega)⟩
  have := (IsRr.two hc hr).2
  rw [Nat.zero_add] at this
  exact ⟨q, e, hb, hl, ⟨_, this⟩, hf⟩
/-- the i-th row of a level -/
theorem row_cell {W : World} {base : Nat} {a : Option Addr} {k c : Nat} {rows : List Mr} (h : OwnMs W base (.slice a k c) rows) {i : Nat} (hi : i < k) :
    ∃ g, a = some ⟨g, 0, none⟩ ∧ base ≤ g ∧ g < W.heap.size ∧ (∀ o, W.frozen? ⟨g, o, none⟩ = false) ∧ ∃ (z n : Int) (ka kb : Ky) (ra : Option Addr) (rn rc : Nat),
      (W.cell? ⟨g, i * 9, none⟩ = some (.int .i64 z) ∧ W.cell? ⟨g, i * 9 + 1, none⟩ = some (.int .i64 n) ∧ W.cell? ⟨g, i * 9 + 2, none⟩ = some (.string ka.u) ∧ W.cell? ⟨g, i * 9 + 3, none⟩ = some (.int .i64 ka.s) ∧ W.cell? ⟨g, i * 9 + 4, none⟩ = some (.int .i64 ka.k) ∧ W.cell? ⟨g, i * 9 + 5, none⟩ = some (.string kb.u) ∧ W.cell? ⟨g, i * 9 + 6, none⟩ = some (.int .i64 kb.s) ∧ W.cell? ⟨g, i * 9 + 7, none⟩ = some (.int .i64 kb.k) ∧ W.cell? ⟨g, i * 9 + 8, none⟩ = some (.slice ra rn rc)) ∧ rn ≤ 9223372036854775807 ∧
      ∀ j, j < rn → ∃ q, ra = some ⟨q, 0, none⟩ ∧ base ≤ q ∧ q < W.heap.size ∧ (∃ z, W.cell? ⟨q, j * 2 + 1, none⟩ = some (.int .i64 z)) ∧ ∀ o, W.frozen? ⟨q, o, none⟩ = false := by
  obtain ⟨g, e, hb, hl, hf⟩ := own_head h.1 (by omega)
  have hk := own_n h.1
  obtain ⟨-, -, -, hx⟩ := h.isMr.1.at
  obtain ⟨b, off, e', hc⟩ := hx (by omega)
  rw [e] at e'
  injection e' with e'
  injection e' with e1 e2
  subst e1 e2
  obtain ⟨r, hr⟩ : ∃ r, rows[i]? = some r := ⟨_, List.getElem?_eq_getElem (by omega)⟩
  have hrow := IsMr.row hc hr
  rw [Nat.zero_add] at hrow
  have ho := h.2 r (List.mem_of_getElem? hr)
  obtain ⟨ra, rc, hv⟩ := own_slice ho
  rw [hv] at ho hrow
  obtain ⟨-, h1, h2, -⟩ := (isSl_own rfC_len ho).at
  refine ⟨g, e, hb, hl, hf, r.1.z, r.1.n, r.1.a, r.1.b, ra, _, rc, hrow, ?_, fun j hj => ref_cell ho hj⟩
  skip
  omega
theorem vapply_own {U : Vn} {L : Lv} {va vd : Value} {ps : List (Int × Mr)} {zs : List Int} {W : World} (hu : IsVn W U) (eu : LvE (lvOf U.l) L) (hS : LvS L 2000) (hv : verOkP L = true) (hpl : IsPl W va ps) (hdz : IsDz W vd zs) (hps : ps.length ≤ 1000) (hsm : ∀ p ∈ ps, mtSmall p.2.1) :
    Calls Try.prog 17 #[.agg U.cells, .agg #[va, vd]] W fun e w' => ∃ (Y : Vn) (z : Int), e = .returned (.tuple #[.agg Y.cells, .int .i64 z]) ∧ OwnVn w' W.heap.size Y ∧ Below W.heap.size W w' := by
  cases ha : applyP L zs (psM ps) with
  | none => exact (vapply_no hu eu hS hv hpl hdz hps hsm ha).mono fun e w' ⟨h1, h2⟩ => ⟨Vn.none, 150, h1, ownVn_none _ _, h2⟩
  | some L' => exact (vapply_yes hu eu hS hv hpl hdz hps hsm ha).mono fun e w' ⟨Y, h1, h2, _, h3⟩ => ⟨Y, 0, h1, h2, h3⟩
theorem small_ed (X : World) (q : Ed) (h : EdIn X q) :
    Calls Try.prog 15 #[.slice (some ⟨X.heap.size, 0, none⟩) 1 1] (X.alloc (.cells #[q.va, q.vd] 43)) fun e w' => e = .returned (.bool (smallB [q])) ∧ Below (X.alloc (.cells #[q.va, q.vd] 43)).heap.size (X.alloc (.cells #[q.va, q.vd] 43)) w' := by
  refine small_any _ _ _ ⟨isSl_lit edC_len [q] _ _ _ rfl rfl 1 rfl (by unfold maxLen; omega), fun x hx => ?_⟩
  rw [List.mem_singleton.1 hx]
  exact edIn_bel h ((Below.refl _ _).alloc (Nat.le_refl _) _)
end Go.Proofs.Ytjefpogeknbelaa.Tithe
