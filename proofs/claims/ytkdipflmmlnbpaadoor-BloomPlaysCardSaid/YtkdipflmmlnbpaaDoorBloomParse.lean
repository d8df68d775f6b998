/- Clone and Parse. -/
import Derived.Test.YtkdipflmmlnbpaaDoorBloomKeeps
import Derived.Lib.QuietBelow
import Derived.BigQuiet
import Derived.Deep.RegionWith
namespace Go.Proofs.YtkdipflmmlnbpaaDoor.Tithe
open Go.RowKit Go.Sort Go.Shelf
set_option linter.unusedVariables false
theorem clone_any (x : Addr) (n c : Nat) (l : List Nat) (w : World) (hb : IsBytes w (.slice (some x) n c) l) (hne : 0 < l.length) (hlen : l.length ≤ 140737488355328) :
    Calls Tryd.prog 32 #[.slice (some x) n c] w fun e w' => ∃ v', e = .returned v' ∧ w'.ownsRow w.heap.size 5 1 v' l.length (cellsOfL l) ∧ Below w.heap.size w w' := by
  obtain ⟨i0, hi0, hz0, hz1, hz2⟩ := info_parts u8info
  obtain ⟨h8, a, c', e, h1, h2, h3⟩ := hb
  injection e with e1 e2 e3
  subst e1 e2 e3
  have hn : ∀ (o : Obj) j u, (cellsOfL l)[j]? = some u → (w.alloc o).cell? (x.add j) = some u := by
    intro o j u hu
    obtain ⟨hj, rfl⟩ := cellsOfL_get l j u hu
    obtain ⟨b, off, ha, hc⟩ := h3 (by rintro rfl; simp at hj)
    injection ha with ha
    subst ha
    rw [plain_add]
    have := hc j hj
    rw [World.cell?_alloc_lt w _ _ (block_lt_of_cell this)]; exact this
  have Hn := Lib.hid hn
  clear hn h3
  have he : ∀ w : World, (binOp .eql 29 (.slice (some x) l.length c) (.slice none 0 0)).run Tryd.prog w = .ok (.bool false) w := fun _ => rfl
  go_enter Tryd.func32, Tryd.ntmps32
  go_wp2_with (first | (at_builtin; (refine wpList_append_own _ rfl (.tmp 5) (.tmp 6) 29 rfl w.heap.size 5 i0 (.int .u8 0) 1 1 Tryd.underlying29 hi0 hz0 hz1 hz2 rfl (by decide) (.slice (some ⟨w.heap.size, 0, none⟩) 0 0) 0 [] rfl (ownsRow_new w [] 5 0 (by decide) rfl) x l.length c (cellsOfL l) rfl (by simp [cellsOfL]) (fun j u hu => Hn.out _ j u hu) (cellsOfL_one l) (by simp only [maxLen]; omega) (by omega) (by simp) ?_); intro v' w' hown hg hnil))
  go_ret
  refine ⟨v', rfl, by simpa using hown, ((Below.refl _ _).alloc (Nat.le_refl _) _).grown hg (by simp) (fun k hk => by simp [Value.ownBlock] at hk; omega)⟩
theorem own_form {w : World} {base n : Nat} {e : TypeId} {v : Value} {xs : List Value} (h : w.ownsRow base e 1 v n xs) (hn : 0 < n) : ∃ g cap, v = .slice (some ⟨g, 0, none⟩) n cap ∧ base ≤ g := by
  rcases h.2 with ⟨_, h0⟩ | ⟨g, cap, cur, hv, hg, _⟩
  · omega
  · exact ⟨g, cap, hv, hg⟩
theorem own_zero {w : World} {base n : Nat} {e : TypeId} {v : Value} {xs : List Value} (h : w.ownsRow base e 1 v n xs) : w.ownsRow 0 e 1 v n xs := by
  refine ⟨h.1, ?_⟩
  rcases h.2 with h0 | ⟨g, cap, cur, hv, hg, r⟩
  · exact .inl h0
  · exact .inr ⟨g, cap, cur, hv, Nat.zero_le _, r⟩
theorem parse_short (v : Value) (l : List Nat) (w : World) (hb : IsBytes w v l) (h : (l.length : Int) ≤ 8) :
    Calls Tryd.prog 26 #[v] w fun e w' => e = .returned (.tuple #[.pointer none, .int .i64 20]) ∧ w = w' := by
  obtain ⟨h8, a, c, rfl, h1, h2, h3⟩ := hb
  clear h3 h8
  go_enter Tryd.func26, Tryd.ntmps26
  go_wp2
  go_ret2
  exact ⟨rfl, rfl⟩
theorem parse_odd (b off c : Nat) (l : List Nat) (w : World) (hb : IsBytes w (.slice (some ⟨b, off, none⟩) l.length c) l) (h : (8 : Int) < l.length) (hm : (l.length : Int) ≤ 2097152) (h1 : (l.getD 0 0 : Int) < 1 ∨ (30 : Int) < (l.getD 0 0 : Int)) :
    Calls Tryd.prog 26 #[.slice (some ⟨b, off, none⟩) l.length c] w fun e w' => e = .returned (.tuple #[.pointer none, .int .i64 20]) ∧ w = w' := by
  obtain ⟨h8, a, c', e, g1, g2, h3⟩ := hb
  injection e with e1 e2 e3
  subst e1 e3
  obtain ⟨b', off', ha, hc⟩ := h3 (by rintro rfl; simp at h)
  injection ha with ha
  injection ha with e1 e4
  subst e1 e4
  have h0 := hc 0 (by omega)
  rw [Nat.add_zero] at h0
  generalize l.getD 0 0 = x at *
  clear hc h3 h8
  by_cases q : (x : Int) < 1
  · clear h1
    go_enter Tryd.func26, Tryd.ntmps26
    go_wp2
    go_ret2
    exact ⟨rfl, rfl⟩
  · have h1' : (30 : Int) < (x : Int) := by omega
    clear h1
    go_enter Tryd.func26, Tryd.ntmps26
    go_wp2
    go_ret2
    exact ⟨rfl, rfl⟩
theorem parse_yes (b off c : Nat) (l : List Nat) (w : World) (hb : IsBytes w (.slice (some ⟨b, off, none⟩) l.length c) l) (h : (8 : Int) < l.length) (hm : (l.length : Int) ≤ 2097152) (h1 : (1 : Int) ≤ (l.getD 0 0 : Int)) (h30 : (l.getD 0 0 : Int) ≤ 30) :
    Calls Tryd.prog 26 #[.slice (some ⟨b, off, none⟩) l.length c] w fun e w' => ∃ fb gb cap, e = .returned (.tuple #[.pointer (some ⟨fb, 0, none⟩), .int .i64 0]) ∧ IsFilter w' fb gb cap (l.drop 1) (l.getD 0 0) ∧ Below w.heap.size w w' ∧ w.heap.size ≤ fb ∧ w.heap.size ≤ gb := by
  have HB := Lib.hid hb
  have HD := Lib.hid (hb.drop 1 (by omega))
  obtain ⟨h8, a, c', e, g1, g2, h3⟩ := hb
  injection e with e1 e2 e3
  subst e1 e3
  obtain ⟨b', off', ha, hc⟩ := h3 (by rintro rfl; simp at h)
  injection ha with ha
  injection ha with e1 e4
  subst e1 e4
  have h0 := hc 0 (by omega)
  rw [Nat.add_zero] at h0
  have hdl : (l.drop 1).length = l.length - 1 := by simp
  have HDL := Lib.hid hdl
  have D8 := Lib.hid (show ∀ y ∈ l.drop 1, y < 256 from fun y hy => h8 y (List.mem_of_mem_drop hy))
  generalize l.getD 0 0 = x at *
  generalize l.drop 1 = m at *
  clear hc h3 h8 hdl
  have hc1 : c ≠ 1 := by omega
  go_enter Tryd.func26, Tryd.ntmps26
  go_wp2
  have hdrew : Below w.heap.size w w.drew := (Below.refl _ _).drew
  have HDd := Lib.hid (HD.out.below hdrew)
  have h0d : w.drew.cell? ⟨b, off, none⟩ = some (.int .u8 x) := by rw [hdrew.cell (block_lt_of_cell h0)]; exact h0
  have hbl := block_lt_of_cell h0
  have hm1 : 0 < m.length := by rw [HDL.out]; omega
  have hm2 : m.length ≤ 140737488355328 := by rw [HDL.out]; omega
  go_region_with (go_at_call 32; refine (clone_any _ _ _ m w.drew HDd.out hm1 hm2).mono ?_; rintro e w2 ⟨v', rfl, hown, hbel⟩; obtain ⟨g, cap, rfl, hgb⟩ := own_form hown hm1; have hown := Lib.hid hown; have h02 : w2.cell? ⟨b, off, none⟩ = some (.int .u8 x) := (World.cell?_of_block (w := w.drew) (hbel.block b hbl)).trans h0d)
  all_goals (go_wp2; go_ret2)
  all_goals
    have hwx : IntKind.i64.wrap (x : Int) = (x : Int) := IntWalk.i64_in _ (by omega)
    have hs2 : w.heap.size ≤ w2.heap.size := hbel.size
    have hbw2 : Below w.heap.size w w2 := hdrew.trans hbel
    have hcl := own_blk hown.out
    refine ⟨w2.heap.size, g, cap, rfl, ⟨?_, ?_, D8.out, hm1, by rw [HDL.out]; omega, by omega⟩, hbw2.alloc (by omega) _, hs2, hgb⟩
    · try rw [hwx]
      exact World.alloc_heap_new w2 _
    · have hgl : g < w2.heap.size := by obtain ⟨cur, hh, _⟩ := hcl; exact (Array.getElem?_eq_some_iff.1 hh).1
      exact own_zero (own_keep hown.out (Below.heap_alloc w2 _ g hgl))
end Go.Proofs.YtkdipflmmlnbpaaDoor.Tithe
