/- The document's Check of a version: walked. -/
import Derived.Test.YtcmndnglmpkpdaaDoorRefHas
import Derived.Test.YtcmndnglmpkpdaaDoorLevAppC
import Derived.BigQuiet
namespace Go.Proofs.YtcmndnglmpkpdaaDoor.Tithe
open Go.RowKit Go.Sort Go.Shelf
set_option linter.unusedVariables false
set_option linter.unusedSimpArgs false
set_option maxRecDepth 100000
theorem intInfo : (Tryd.prog.info? 3).map (fun i => (i.zero, i.size, i.bytes)) = some (some (.int .i64 0), 1, 8) := by kernel_rfl
abbrev OwnZ (W : World) (base : Nat) (v : Value) (zs : List Int) : Prop := W.ownsRow base 3 1 v zs.length (flat dzC zs)
theorem push_z (W0 : World) (base : Nat) (xa : Option Addr) (rl xc : Nat) (zs : List Int) (z : Int) (h : OwnZ W0 base (.slice xa rl xc) zs) (hl : rl ≤ 1000000) (hb : base ≤ W0.heap.size) :
    ∃ ya yc w2, (Builtin.append_ #[32, 32] 32 #[.slice xa rl xc, .slice (some ⟨W0.heap.size, 0, none⟩) 1 1]).run Tryd.prog (W0.alloc (.cells #[.int .i64 z] 3)) = .ok (.slice ya (rl + 1) yc) w2 ∧
      OwnZ w2 base (.slice ya (rl + 1) yc) (zs ++ [z]) ∧ (W0.alloc (.cells #[.int .i64 z] 3)).grownBy w2 (Value.slice xa rl xc).ownBlock := by
  obtain ⟨i0, hi0, hz0, hz1, hz2⟩ := info_partsL intInfo
  have h' : OwnZ (W0.alloc (.cells #[.int .i64 z] 3)) base (.slice xa rl xc) zs := own_below h ((Below.refl _ _).alloc (Nat.le_refl _) _)
  have hrl : rl = zs.length := own_n h
  obtain ⟨g, yc, w2, hrun, hown, hg, hlies, -⟩ := run_append_lies (P := Tryd.prog) (W0.alloc (.cells #[.int .i64 z] 3)) 32 32 base 3 i0 (.int .i64 0) 1 8 Tryd.underlying32 hi0 hz0 hz1 hz2 rfl (by decide)
    (.slice xa rl xc) zs.length (flat dzC zs) h' ⟨W0.heap.size, 0, none⟩ 1 1 (dzC z) rfl (newsL _ _ rfl _ _ rfl) (by intro u hu; simp [dzC] at hu; subst hu; rfl) (by omega) (by unfold maxLen; omega) (by omega) (by simp; omega) _ rfl
  refine ⟨some ⟨g, 0, none⟩, yc, w2, by rw [hrl] at hrun ⊢; exact hrun, ?_, hg⟩
  rw [hrl]
  unfold OwnZ
  rw [List.length_append, flat_append, flat_one]
  exact hown
theorem own_not {W : World} {base b : Nat} {e t : TypeId} {size n : Nat} {x : Value} {xs : List Value} {cs : Array Value} {fr : Nat × Nat} (h : W.ownsRow base e size x n xs) (hb : W.heap[b]? = some (.cells cs t fr)) (hne : t ≠ e) : x.ownBlock ≠ some b := by
  intro q
  rcases h.2 with ⟨rfl, _⟩ | ⟨g, cap, cur, rfl, _, hg, _⟩
  · cases q
  · cases q
    rw [hb] at hg
    injection hg with hg
    injection hg with _ hg _
    exact hne hg
theorem push_other {W0 w2 : World} {base b : Nat} {e t : TypeId} {size n : Nat} {x : Value} {xs : List Value} {cs : Array Value} {fr : Nat × Nat} {ob : Obj} (h : W0.ownsRow base e size x n xs) (hg : (W0.alloc ob).grownBy w2 x.ownBlock) (hb : W0.heap[b]? = some (.cells cs t fr)) (hne : t ≠ e) : w2.heap[b]? = some (.cells cs t fr) :=
  (hg.block b (blk_lt (blk_old hb ob)) (own_not h hb hne).symm).trans (blk_old hb ob)
theorem push_bel {w W0 w2 : World} {B base n : Nat} {e : TypeId} {size : Nat} {x : Value} {xs : List Value} {ob : Obj} (hb : Below B w W0) (h : W0.ownsRow base e size x n xs) (hg : (W0.alloc ob).grownBy w2 x.ownBlock) (hB : B ≤ base) (hs : base ≤ W0.heap.size) : Below B w w2 :=
  (hb.alloc (Nat.le_trans hB hs) _).grown hg (by rw [World.size_alloc]; omega) (fun g q => by
    rcases h.2 with ⟨rfl, _⟩ | ⟨g', cap, cur, rfl, hb', _⟩
    · cases q
    · cases q; exact Nat.le_trans hB hb')
/-! ### the zones seen -/
theorem tabsOk_lt {ts : List (Nat × Mr)} : ∀ {n k : Nat}, tabsOk ts n = true → k < n → tabOk ts k = true
  | n + 1, k, h, hk => by
    have h' : (tabsOk ts n && tabOk ts n) = true := h
    rw [Bool.and_eq_true] at h'
    by_cases e : k = n
    · subst e; exact h'.2
    · exact tabsOk_lt h'.1 (by omega)
theorem seenZ_iff (ts : List (Nat × Mr)) (z : Nat) : ∀ g, seenZ ts g z = true ↔ ∃ j, j < g ∧ z = (ts.getD j (0, Mr.nil)).2.1.z.toNat
  | 0 => by simp [seenZ]
  | g + 1 => by
    unfold seenZ
    split
    · rename_i h
      exact ⟨fun _ => ⟨g, Nat.lt_succ_self _, h⟩, fun _ => rfl⟩
    · rename_i h
      rw [seenZ_iff ts z g]
      constructor
      · rintro ⟨j, hj, e⟩; exact ⟨j, by omega, e⟩
      · rintro ⟨j, hj, e⟩
        by_cases q : j = g
        · subst q; exact absurd e h
        · exact ⟨j, by omega, e⟩
def zsP (ts : List (Nat × Mr)) (g : Nat) : List Int := (ts.take g).map fun p => p.2.1.z
theorem zsP_get {ts : List (Nat × Mr)} {g j : Nat} (hj : j < g) (hg : g ≤ ts.length) : (zsP ts g)[j]? = some (ts.getD j (0, Mr.nil)).2.1.z := by
  unfold zsP
  rw [List.getElem?_map, List.getElem?_take_of_lt hj, List.getD_eq_getElem?_getD, List.getElem?_eq_getElem (by omega)]; rfl
theorem zsP_len {ts : List (Nat × Mr)} {g : Nat} (hg : g ≤ ts.length) : (zsP ts g).length = g := by
  unfold zsP; rw [List.length_map, List.length_take]; omega
theorem zsP_succ {ts : List (Nat × Mr)} {g : Nat} {p : Nat × Mr} (h : ts[g]? = some p) : zsP ts (g + 1) = zsP ts g ++ [p.2.1.z] := by
  unfold zsP; rw [List.take_add_one, h, List.map_append]; rfl
theorem seen_yes {ts : List (Nat × Mr)} {g k : Nat} {p : Nat × Mr} {y : Int} (h : ts[g]? = some p) (hk : (zsP ts g)[k]? = some y) (hg : g ≤ ts.length) (e : y = p.2.1.z) : tabOk ts g = false := by
  have hkg : k < g := by have := (List.getElem?_eq_some_iff.1 hk).1; rwa [zsP_len hg] at this
  rw [zsP_get hkg hg] at hk
  injection hk with hk
  have hgd : ts.getD g (0, Mr.nil) = p := by rw [List.getD_eq_getElem?_getD, h]; rfl
  unfold tabOk
  rw [hgd, (seenZ_iff ts _ g).2 ⟨k, hkg, by rw [hk, e]⟩]; simp
theorem seen_no {ts : List (Nat × Mr)} {g : Nat} {p : Nat × Mr} (h : ts[g]? = some p) (hok : mOk p.2.1 = true) (ht : tabsOk ts g = true) (hn : ∀ (k : Nat) (y : Int), (zsP ts g)[k]? = some y → y ≠ p.2.1.z) : tabOk ts g = true := by
  have hgd : ts.getD g (0, Mr.nil) = p := by rw [List.getD_eq_getElem?_getD, h]; rfl
  have hgl : g ≤ ts.length := Nat.le_of_lt (List.getElem?_eq_some_iff.1 h).1
  unfold tabOk
  rw [hgd, hok, Bool.true_and, Bool.not_eq_true']
  cases hs : seenZ ts g p.2.1.z.toNat with
  | false => rfl
  | true =>
    obtain ⟨j, hj, e⟩ := (seenZ_iff ts _ g).1 hs
    have h1 := tabsOk_lt ht hj
    unfold tabOk at h1
    rw [Bool.and_eq_true] at h1
    have h2 := (mOk_zone h1.1).1
    have h3 := (mOk_zone hok).1
    exact absurd (by omega) (hn j _ (zsP_get hj hgl))
theorem tabs_len_le (l : Nat → List Mr) {n i : Nat} (hn : n < 4) (hi : i ≤ (l n).length) : (tabs l n).length + i ≤ (tabs l 4).length := by
  obtain ⟨t, ht⟩ := tabs_mono l (n + 1) (4 - (n + 1))
  rw [show n + 1 + (4 - (n + 1)) = 4 by omega] at ht
  rw [ht, List.length_append, tabs_succ_len]; omega
theorem verOk_bad_tab {l : Nat → List Mr} {k : Nat} (hk : k < (tabs l 4).length) (h : tabOk (tabs l 4) k = false) : verOk l = false := by
  unfold verOk; rw [tabsOk_false h _ hk]; rfl
theorem verOk_bad_sep {l : Nat → List Mr} {n i : Nat} (hn0 : 0 < n) (hn : n < 4) (hi : i < (l n).length) (h : sepAt (l n) i = false) : verOk l = false := by
  have hs := sepOk_false h _ hi
  unfold verOk
  have : n = 1 ∨ n = 2 ∨ n = 3 := by omega
  rcases this with rfl | rfl | rfl <;> rw [hs] <;> simp
theorem verOk_good {l : Nat → List Mr} (h : tabsOk (tabs l 4) (tabs l 4).length = true) (hs : ∀ m, 0 < m → m < 4 → sepOk (l m) (l m).length = true) : verOk l = true := by
  unfold verOk; rw [h, hs 1 (by omega) (by omega), hs 2 (by omega) (by omega), hs 3 (by omega) (by omega)]; rfl
attribute [local go_sem] Oper.semAt_some
end Go.Proofs.YtcmndnglmpkpdaaDoor.Tithe
