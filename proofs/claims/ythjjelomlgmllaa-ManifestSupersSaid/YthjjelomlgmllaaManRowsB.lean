/- One row of bytes more: also the structs' blocks stay. -/
import Derived.Test.YthjjelomlgmllaaManRows
namespace Go.Proofs.Ythjjelomlgmllaa.Tithe
open Go.RowKit Go.Sort Go.Shelf
set_option linter.unusedVariables false
/-- one more row: what else there is stays -/
theorem push_bc (W : World) (base : Nat) (v : Value) (l : List (Value × List Nat)) (x : Value × List Nat) (hx : ∃ a n c, x.1 = .slice a n c) (h : OwnBB W base v l) (hl : l.length ≤ 1000000) (hb : base ≤ W.heap.size) :
    ∃ (a' : Option Addr) (n' c' : Nat) (w2 : World), (Builtin.append_ #[47, 47] 47 #[v, .slice (some ⟨W.heap.size, 0, none⟩) 1 1]).run Try.prog (W.alloc (.cells #[x.1] 34)) = .ok (.slice a' n' c') w2 ∧ OwnBB w2 base (.slice a' n' c') (l ++ [x]) ∧ Below base W w2 ∧
      (∀ (b : Nat) (cs : Array Value) (t : TypeId) (fr : Nat × Nat), W.heap[b]? = some (.cells cs t fr) → t ≠ 34 → w2.heap[b]? = some (.cells cs t fr)) ∧ (∀ W0 p, W0.heap.size = base → El W0 W p → El W0 w2 p) ∧ (∀ v2 l2, OwnBB W base v2 l2 → (∀ s, v.ownBlock = some s → v2.ownBlock ≠ some s) → OwnBB w2 base v2 l2 ∧ ∀ s, (Value.slice a' n' c').ownBlock = some s → v2.ownBlock ≠ some s) := by
  obtain ⟨i0, hi0, hz0, hz1, hz2⟩ := info_partsR bbInfo
  obtain ⟨xa, xn, xc, hx⟩ := hx
  have hal : Below W.heap.size W (W.alloc (.cells #[x.1] 34)) := (Below.refl _ _).alloc (Nat.le_refl _) _
  have hsl : IsSl bbC 1 (W.alloc (.cells #[x.1] 34)) (.slice (some ⟨W.heap.size, 0, none⟩) 1 1) [x] := isSl_lit bbC_len [x] #[x.1] 34 W.heap.size rfl rfl 1 rfl (by unfold maxLen; omega)
  have ho : OwnBB (W.alloc (.cells #[x.1] 34)) base v l := own_below h hal
  have hbs : base ≤ (W.alloc (.cells #[x.1] 34)).heap.size := Nat.le_trans hb hal.size
  obtain ⟨v', w2, hrun, r1, hg, -, hob⟩ := run_append_own_at (P := Try.prog) (w := W.alloc (.cells #[x.1] 34)) base 47 47 34 i0 (.slice none 0 0) 1 24 Try.underlying47 hi0 hz0 hz1 hz2 rfl (by decide) v l.length (flat bbC l) ho ⟨W.heap.size, 0, none⟩ 1 1 (flat bbC [x]) rfl (fun j u hj => hsl.news bbC_len j u hj) (fun u hu => by simp [flat, bbC] at hu; rw [hu, hx]; rfl) (by unfold maxLen; omega) (by omega) hbs
  have h2 : OwnBB w2 base v' (l ++ [x]) := by
    unfold OwnBB
    rw [List.length_append, flat_append]
    exact r1
  obtain ⟨n', hn'⟩ : ∃ n', n' = (l ++ [x]).length := ⟨_, rfl⟩
  have h2' := h2
  rw [OwnBB, ← hn'] at h2'
  obtain ⟨a', c', rfl⟩ := own_slice h2'
  refine ⟨a', n', c', w2, hrun, h2, (hal.mono hb).trans ((Below.refl base _).grown hg hbs (fun g e => (ho.lt g e).1)), fun b cs t fr hb ht => grow_at h hal hg hb ht, fun W0 p e0 hp => ?_, fun v2 l2 h3 hs => ?_⟩
  · obtain ⟨h1, h4⟩ := hp
    refine ⟨?_, h4⟩
    rcases h1 with h1 | h1
    · exact .inl h1
    · exact .inr (grow_row h hal hg h1 (by decide))
  · have hlt : ∀ s, v2.ownBlock = some s → s < W.heap.size := fun s e => (World.ownsRow.lt h3 s e).2
    refine ⟨⟨h3.1, ?_⟩, fun s e1 e2 => ?_⟩
    · rcases h3.2 with q | ⟨g, cap, cur, hv, hbg, hh, r⟩
      · exact .inl q
      · refine .inr ⟨g, cap, cur, hv, hbg, ?_, r⟩
        have hg2 := blk_lt hh
        refine (hg.block g (Nat.lt_of_lt_of_le hg2 hal.size) (fun q => ?_)).trans (blk_bels hal hh)
        exact hs g q.symm (by rw [hv]; rfl)
    · rcases hob with hob | hob
      · exact hs s (by rw [← hob]; exact e1) e2
      · rw [hob] at e1
        injection e1 with e1
        have := hlt s e2
        rw [← e1, World.size_alloc] at this
        omega
end Go.Proofs.Ythjjelomlgmllaa.Tithe
