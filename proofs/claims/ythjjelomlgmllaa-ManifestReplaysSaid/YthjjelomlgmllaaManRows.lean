/- Rows of rows of bytes of a call's own; supers, plain. -/
import Derived.Test.YthjjelomlgmllaaManSup
namespace Go.Proofs.Ythjjelomlgmllaa.Tithe
open Go.RowKit Go.Sort Go.Shelf
set_option linter.unusedVariables false
abbrev OwnBB (W : World) (base : Nat) (v : Value) (l : List (Value × List Nat)) : Prop := W.ownsRow base 34 1 v l.length (flat bbC l)
/-- an element: bytes of the arguments' or of the call's own -/
def El (W0 W : World) (p : Value × List Nat) : Prop := (IsBs W0 p.1 p.2 ∨ OwnBs W W0.heap.size p.1 p.2) ∧ (∀ x ∈ p.2, x < 256) ∧ p.2.length ≤ 100000
theorem El.below {W0 W W' : World} {p : Value × List Nat} (h : El W0 W p) (hb : Below W.heap.size W W') : El W0 W' p := by
  obtain ⟨h1, h2⟩ := h
  refine ⟨?_, h2⟩
  rcases h1 with h1 | h1
  · exact .inl h1
  · exact .inr (own_below h1 hb)
theorem El.is {W0 W : World} {p : Value × List Nat} (h : El W0 W p) (hb : Below W0.heap.size W0 W) : IsBs W p.1 p.2 ∧ (∀ x ∈ p.2, x < 256) ∧ p.2.length ≤ 100000 := by
  obtain ⟨h1, h2⟩ := h
  refine ⟨?_, h2⟩
  rcases h1 with h1 | h1
  · exact h1.below hb
  · exact isSl_own byteC_len h1
theorem El.sl {W0 W : World} {p : Value × List Nat} (h : El W0 W p) : ∃ a c, p.1 = .slice a p.2.length c := by
  rcases h.1 with h1 | h1
  · obtain ⟨a, c, e, -⟩ := h1; exact ⟨a, c, e⟩
  · exact own_slice h1
theorem bbInfo : (Try.prog.info? 34).map (fun i => (i.zero, i.size, i.bytes)) = some (some (.slice none 0 0), 1, 24) := by kernel_rfl
/-- one more row: what else there is stays -/
theorem push_bb (W : World) (base : Nat) (v : Value) (l : List (Value × List Nat)) (x : Value × List Nat) (hx : ∃ a n c, x.1 = .slice a n c) (h : OwnBB W base v l) (hl : l.length ≤ 1000000) (hb : base ≤ W.heap.size) :
    ∃ (a' : Option Addr) (n' c' : Nat) (w2 : World), (Builtin.append_ #[47, 47] 47 #[v, .slice (some ⟨W.heap.size, 0, none⟩) 1 1]).run Try.prog (W.alloc (.cells #[x.1] 34)) = .ok (.slice a' n' c') w2 ∧ OwnBB w2 base (.slice a' n' c') (l ++ [x]) ∧ Below base W w2 ∧
      (∀ W0 p, W0.heap.size = base → El W0 W p → El W0 w2 p) ∧ (∀ v2 l2, OwnBB W base v2 l2 → (∀ s, v.ownBlock = some s → v2.ownBlock ≠ some s) → OwnBB w2 base v2 l2 ∧ ∀ s, (Value.slice a' n' c').ownBlock = some s → v2.ownBlock ≠ some s) := by
  obtain ⟨i0, hi0, hz0, hz1, hz2⟩ := info_partsR bbInfo
  obtain ⟨xa, xn, xc, hx⟩ := hx
  have hal : Below W.heap.size W (W.alloc (.cells #[x.1] 34)) := (Below.refl _ _).alloc (Nat.le_refl _) _
  have hsl : IsSl bbC 1 (W.alloc (.cells #[x.1] 34)) (.slice (some ⟨W.heap.size, 0, none⟩) 1 1) [x] := isSl_lit bbC_len [x] #[x.1] 34 W.heap.size rfl rfl 1 rfl (by unfold maxLen; omega)
  have ho : OwnBB (W.alloc (.cells #[x.1] 34)) base v l := own_below h hal
  have hbs : base ≤ (W.alloc (.cells #[x.1] 34)).heap.size := Nat.le_trans hb hal.size
  obtain ⟨v', w2, hrun, r1, hg, -, hob⟩ := run_append_own_at (P := Try.prog) (w := W.alloc (.cells #[x.1] 34)) base 47 47 34 i0 (.slice none 0 0) 1 24 Try.underlying47 hi0 hz0 hz1 hz2 rfl (by decide) v l.length (flat bbC l) ho ⟨W.heap.size, 0, none⟩ 1 1 (flat bbC [x]) rfl (fun j u hj => hsl.news bbC_len j u hj) (fun u hu => by simp [flat, bbC] at hu; rw [hu, hx]; rfl) (by unfold maxLen; omega) (by omega) hbs
  have h2 : OwnBB w2 base v' (l ++ [x]) := by
    unfold OwnBB
    rw [List.length_append, flat_append]
    exact r1
  obtain ⟨n', hn'⟩ : ∃ n', n' = (l ++ [x]).length := ⟨_, rfl⟩
  have h2' := h2
  rw [OwnBB, ← hn'] at h2'
  obtain ⟨a', c', rfl⟩ := own_slice h2'
  refine ⟨a', n', c', w2, hrun, h2, (hal.mono hb).trans ((Below.refl base _).grown hg hbs (fun g e => (ho.lt g e).1)), fun W0 p e0 hp => ?_, fun v2 l2 h3 hs => ?_⟩
  · obtain ⟨h1, h4⟩ := hp
    refine ⟨?_, h4⟩
    rcases h1 with h1 | h1
    · exact .inl h1
    · exact .inr (grow_row h hal hg h1 (by decide))
  · have hlt : ∀ s, v2.ownBlock = some s → s < W.heap.size := fun s e => (World.ownsRow.lt h3 s e).2
    refine ⟨⟨h3.1, ?_⟩, fun s e1 e2 => ?_⟩
    · rcases h3.2 with q | ⟨g, cap, cur, hv, hbg, hh, r⟩
      · exact .inl q
      · refine .inr ⟨g, cap, cur, hv, hbg, ?_, r⟩
        have hg2 := blk_lt hh
        refine (hg.block g (Nat.lt_of_lt_of_le hg2 hal.size) (fun q => ?_)).trans (blk_bels hal hh)
        exact hs g q.symm (by rw [hv]; rfl)
    · rcases hob with hob | hob
      · exact hs s (by rw [← hob]; exact e1) e2
      · rw [hob] at e1
        injection e1 with e1
        have := hlt s e2
        rw [← e1, World.size_alloc] at this
        omega
/-! ### supers -/
theorem encN_lt {n : Nat} (h : n < 9223372036854775808) : ∀ x ∈ encN n, x < 256 := encF_b 9 n h
theorem supP_enc {x : Int × Int} (h : supOk x.1 x.2 = true) : supP (encS x) = some x := by
  obtain ⟨g, z⟩ := x
  have h0 := h
  unfold supOk at h
  simp only [Bool.and_eq_true, decide_eq_true_eq] at h
  obtain ⟨⟨⟨h1, h2⟩, h3⟩, h4⟩ := h
  obtain ⟨gn, rfl⟩ : ∃ q : Nat, g = (q : Int) := ⟨g.toNat, by omega⟩
  obtain ⟨zn, rfl⟩ : ∃ q : Nat, z = (q : Int) := ⟨z.toNat, by omega⟩
  have e1 : numB false (encS ((gn : Int), (zn : Int))) = (gn, encN zn, false) := numR_enc gn (encN zn) (by omega)
  have e2 : numB false (encN zn) = (zn, [], false) := by
    have := numR_enc zn [] (by omega)
    rw [List.append_nil] at this
    exact this
  unfold supP
  rw [e1]
  dsimp only
  rw [e2]
  dsimp only
  rw [h0]; rfl
theorem supP_ok {bs : List Nat} {x : Int × Int} (h : supP bs = some x) : supOk x.1 x.2 = true := by
  unfold supP at h
  dsimp only at h
  split at h
  · rename_i q
    injection h with h
    rw [← h]
    simp only [Bool.and_eq_true] at q
    exact q.2
  · cases h
theorem supOk_pos {g z : Int} (h : supOk g z = true) : 1 ≤ g := by
  unfold supOk at h
  simp only [Bool.and_eq_true, decide_eq_true_eq] at h
  exact h.1.1.1
theorem newS_none {b : Int × Int} {bs : List Nat} (h : supP bs = none) : newS b bs = b := by unfold newS; rw [h]
theorem newS_enc (b : Int × Int) {x : Int × Int} (h : supOk x.1 x.2 = true) : newS b (encS x) = if b.1 ≤ x.1 then x else b := by unfold newS; rw [supP_enc h]
theorem newS_pos {b x : Int × Int} (h : supOk x.1 x.2 = true) : 0 < (newS b (encS x)).1 := by
  rw [newS_enc b h]
  have := supOk_pos h
  split <;> omega
theorem encS_lt {x : Int × Int} (h : supOk x.1 x.2 = true) : (∀ y ∈ encS x, y < 256) ∧ (encS x).length ≤ 100000 := by
  unfold supOk at h
  simp only [Bool.and_eq_true, decide_eq_true_eq] at h
  refine ⟨fun y hy => ?_, ?_⟩
  · unfold encS at hy
    rcases List.mem_append.1 hy with hy | hy
    · exact encN_lt (by omega) y hy
    · exact encN_lt (by omega) y hy
  · unfold encS
    have h1 := encN_le x.1.toNat
    have h2 := encN_le x.2.toNat
    rw [List.length_append]; omega
end Go.Proofs.Ythjjelomlgmllaa.Tithe
