/- A model made; the document's model as it stands; what each leaves of the other: walked. -/
import Derived.Test.YtbnodgoccmhjkaaFlatWrite
namespace Go.Proofs.Ytbnodgoccmhjkaa.Tithe
open Go.RowKit Go.Sort Go.Shelf
set_option linter.unusedVariables false
set_option linter.unusedSimpArgs false
set_option maxRecDepth 100000
/-- the document's model: its block, and its writes, of a call's own -/
structure IsXo (W : World) (base xb : Nat) (most : Int) (rows : List Wr) : Prop where
  ex : ∃ a c, W.heap[xb]? = some (.cells #[.slice a rows.length c, .int .i64 most] 36 (0, 0)) ∧ OwnXw W base (.slice a rows.length c) rows
  lt : xb < base
  le : base ≤ W.heap.size
theorem IsXo.bel {w w' : World} {base xb : Nat} {most : Int} {rows : List Wr} (h : IsXo w base xb most rows) (hb : Below w.heap.size w w') : IsXo w' base xb most rows := by
  obtain ⟨a, c, h1, h2⟩ := h.ex
  exact ⟨⟨a, c, blk_bels hb h1, h2.below hb⟩, h.lt, Nat.le_trans h.le hb.size⟩
/-- all but the document's models and rows of its writes is as it was -/
def KeepX (w w' : World) : Prop := ∀ (b : Nat) (o : Obj), w.heap[b]? = some o → (∀ cs fr, o ≠ .cells cs 36 fr) → (∀ cs fr, o ≠ .cells cs 68 fr) → w'.heap[b]? = some o
theorem KeepX.of_below {w w' : World} (hb : Below w.heap.size w w') : KeepX w w' := fun b o h _ _ => blk_bels hb h
theorem KeepX.trans {a b c : World} (h : KeepX a b) (h2 : KeepX b c) : KeepX a c := fun q o hq h3 h4 => h2 q o (h q o hq h3 h4) h3 h4
theorem KeepX.set {w : World} {mb i : Nat} {x : Value} {cs : Array Value} (h : w.heap[mb]? = some (.cells cs 36 (0, 0))) : KeepX w (w.setCell ⟨mb, i, none⟩ x) := fun b o hb h3 h4 => by
  refine (Below.heap_setCell w ⟨mb, i, none⟩ x b (fun e => ?_)).trans hb
  have e2 : b = mb := e
  subst e2
  rw [h] at hb
  injection hb with hb
  exact h3 _ _ hb.symm
theorem cells_ne {cs cs' : Array Value} {t t' : TypeId} {fr fr' : Nat × Nat} (h : t ≠ t') : (Obj.cells cs t fr) ≠ .cells cs' t' fr' := fun e => by injection e with _ e _; exact h e
theorem own_keepM {W W' : World} {base : Nat} {e : TypeId} {size n : Nat} {v : Value} {xs : List Value} (h : W.ownsRow base e size v n xs) (hk : KeepM W W') (h1 : e ≠ 78) (h2 : e ≠ 37) : W'.ownsRow base e size v n xs := by
  refine ⟨h.1, ?_⟩
  rcases h.2 with h0 | ⟨g, cap, cur, hv, hb, hh, r⟩
  · exact .inl h0
  · exact .inr ⟨g, cap, cur, hv, hb, hk g _ hh (fun cs fr => cells_ne h1) (fun cs fr => cells_ne h2), r⟩
theorem own_keepX {W W' : World} {base : Nat} {e : TypeId} {size n : Nat} {v : Value} {xs : List Value} (h : W.ownsRow base e size v n xs) (hk : KeepX W W') (h1 : e ≠ 36) (h2 : e ≠ 68) : W'.ownsRow base e size v n xs := by
  refine ⟨h.1, ?_⟩
  rcases h.2 with h0 | ⟨g, cap, cur, hv, hb, hh, r⟩
  · exact .inl h0
  · exact .inr ⟨g, cap, cur, hv, hb, hk g _ hh (fun cs fr => cells_ne h1) (fun cs fr => cells_ne h2), r⟩
theorem IsXo.keep {w w' : World} {base xb : Nat} {most : Int} {rows : List Wr} (h : IsXo w base xb most rows) (hk : KeepM w w') (hs : w.heap.size ≤ w'.heap.size) : IsXo w' base xb most rows := by
  obtain ⟨a, c, h1, h2⟩ := h.ex
  exact ⟨⟨a, c, hk xb _ h1 (fun cs fr => cells_ne (by decide)) (fun cs fr => cells_ne (by decide)), own_keepM h2.out hk (by decide) (by decide), fun r hr => own_keepM (h2.row r hr) hk (by decide) (by decide)⟩, h.lt, Nat.le_trans h.le hs⟩
theorem IsMo.keep {w w' : World} {base mb : Nat} {most : Int} {rows : List Wr} {sm im : Nat} {hd : Int} (h : IsMo w base mb most rows sm im hd) (hk : KeepX w w') (hs : w.heap.size ≤ w'.heap.size) : IsMo w' base mb most rows sm im hd := by
  obtain ⟨a, c, h1, h2⟩ := h.ex
  exact ⟨⟨a, c, hk mb _ h1 (fun cs fr => cells_ne (by decide)) (fun cs fr => cells_ne (by decide)), own_keepX h2.out hk (by decide) (by decide), fun r hr => own_keepX (h2.row r hr) hk (by decide) (by decide)⟩, h.lt, Nat.le_trans h.le hs⟩
attribute [local go_sem] Oper.semAt_some
theorem mnew_any (most : Int) (w : World) :
    Calls Try.prog 22 #[.int .i64 most] w fun e w' => e = .returned (.pointer (some ⟨w.heap.size + 2, 0, none⟩)) ∧ w'.heap[w.heap.size + 2]? = some (.cells (moC most 0 (.slice none 0 0) w.heap.size (w.heap.size + 1) 0) 78 (0, 0)) ∧ w'.heap[w.heap.size]? = some (.map #[] 0) ∧ w'.heap[w.heap.size + 1]? = some (.map #[] 0) ∧ Below w.heap.size w w' ∧ w'.heap.size = w.heap.size + 3 := by
  have hmm := @run_makeMap Try.prog
  go_enter Try.func22, Try.ntmps22
  go_wp2_with fail
  go_ret
  refine ⟨rfl, ?_, ?_, ?_, ?_, ?_⟩
  · have := blk_of_alloc ((w.alloc (.map #[] 0)).alloc (.map #[] 0)) (.cells (moC most 0 (.slice none 0 0) w.heap.size (w.heap.size + 1) 0) 78)
    simpa [World.size_alloc, moC] using this
  · exact blk_old (blk_old (blk_of_alloc w _) _) _
  · have := blk_of_alloc (w.alloc (.map #[] 0)) (.map #[] 0)
    rw [World.size_alloc] at this
    exact blk_old this _
  · exact (((Below.refl _ _).alloc (Nat.le_refl _) _).alloc (by simp) _).alloc (by simp; omega) _
  · simp
end Go.Proofs.Ytbnodgoccmhjkaa.Tithe
