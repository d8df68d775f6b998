/- Chapter 19's version: walked. -/
import Derived.Test.YtkjfjcigmmooiaaEntCore
import Derived.Test.YtkjfjcigmmooiaaLevApply
import Derived.Test.YtkjfjcigmmooiaaLevCov
namespace Go.Proofs.Ytkjfjcigmmooiaa.Tithe
open Go.RowKit Go.Sort Go.Shelf
set_option linter.unusedVariables false
set_option linter.unusedSimpArgs false
set_option maxRecDepth 100000
def sxC (x : ByteArray) : List Value := [.string x]
theorem sxC_len (x : ByteArray) : (sxC x).length = 1 := rfl
/-- rows of strings -/
abbrev IsSx (w : World) (v : Value) (l : List ByteArray) : Prop := IsSl sxC 1 w v l
/-! ### plain -/
def SmL (L : Lv) (B : Nat) : Prop := ∀ n, n < 4 → (L n).length ≤ B ∧ ∀ m ∈ L n, m.refs.length ≤ 1000000
theorem SmL.congr {L L' : Lv} {B : Nat} (h : SmL L B) (e : ∀ n, n < 4 → L' n = L n) : SmL L' B := fun n hn => by rw [e n hn]; exact h n hn
theorem SmL.mono {L : Lv} {B B' : Nat} (h : SmL L B) (e : B ≤ B') : SmL L B' := fun n hn => ⟨Nat.le_trans (h n hn).1 e, (h n hn).2⟩
theorem apply_one {L L1 : Lv} {lv : Int} {m : Mt} {B : Nat} (hS : SmL L B) (hm : m.refs.length ≤ 1000000) (ha : applyP L [] [(lv, m)] = some L1) : verOkP L1 = true ∧ SmL L1 (B + 1) := by
  have e0 : applyP L [] [(lv, m)] = match addP L (-1) (lv, m) with | none => none | some L' => if verOkP L' = true then some L' else none := rfl
  rw [e0] at ha
  unfold addP at ha
  by_cases hr : lv < 0 ∨ 4 ≤ lv
  · rw [if_pos hr] at ha; cases ha
  · rw [if_neg hr] at ha
    dsimp only at ha
    split at ha
    · rename_i hv
      injection ha with ha
      subst ha
      refine ⟨hv, fun n hn => ?_⟩
      unfold Lv.upd
      split
      · rename_i e
        have hn4 : lv.toNat < 4 := by omega
        have h := hS lv.toNat hn4
        refine ⟨?_, fun x hx => ?_⟩
        · rw [List.length_append, List.length_cons, List.length_take, List.length_drop]; omega
        · rcases List.mem_append.1 hx with hx | hx
          · exact h.2 x (List.mem_of_mem_take hx)
          · rcases List.mem_cons.1 hx with rfl | hx
            · exact hm
            · exact h.2 x (List.mem_of_mem_drop hx)
      · exact ⟨Nat.le_succ_of_le (hS n hn).1, (hS n hn).2⟩
    · cases ha
theorem tabs_sm {l : Nat → List Mr} {B : Nat} (h : SmL (lvOf l) B) : (tabs l 4).length ≤ 4 * B ∧ ∀ p ∈ tabs l 4, p.2.1.refs.length ≤ 1000000 := by
  have hn : ∀ n, n < 4 → (l n).length ≤ B := fun n hn => by have := (h n hn).1; unfold lvOf at this; rwa [List.length_map] at this
  refine ⟨?_, fun p hp => ?_⟩
  · rw [tabs_succ_len, tabs_succ_len, tabs_succ_len, tabs_succ_len]
    have := hn 0 (by omega); have := hn 1 (by omega); have := hn 2 (by omega); have := hn 3 (by omega)
    show 0 + _ + _ + _ + _ ≤ _
    omega
  · obtain ⟨h1, h2⟩ := tabs_mem hp
    exact (h p.1 h1).2 _ (List.mem_map.2 ⟨p.2, h2, rfl⟩)
/-! ### in memory -/
theorem isVn_none (W : World) : IsVn W Vn.none := fun n hn => (OwnMs.nil W 0).isMr
theorem vn_agg {W : World} {U : Vn} (h : IsVn W U) : ∃ aa0 an0 ac0 aa1 an1 ac1 aa2 an2 ac2 aa3 an3 ac3, U.cells = #[.slice aa0 an0 ac0, .slice aa1 an1 ac1, .slice aa2 an2 ac2, .slice aa3 an3 ac3] := by
  obtain ⟨a0, c0, e0, -⟩ := (h 0 (by omega)).1
  obtain ⟨a1, c1, e1, -⟩ := (h 1 (by omega)).1
  obtain ⟨a2, c2, e2, -⟩ := (h 2 (by omega)).1
  obtain ⟨a3, c3, e3, -⟩ := (h 3 (by omega)).1
  exact ⟨a0, _, c0, a1, _, c1, a2, _, c2, a3, _, c3, by unfold Vn.cells; rw [e0, e1, e2, e3]⟩
theorem OwnVn.set {W : World} {base b i : Nat} {V : Vn} {v : Value} (h : OwnVn W base V) (hb : b < base) : OwnVn (W.setCell ⟨b, i, none⟩ v) base V := h.far (grown_set W b i v) (fun r e => by cases e; exact hb)
theorem isPl_new (X : World) (lv : Int) (r : Mr) (hr : IsRr X r.2 r.1.refs) : IsPl (X.alloc (.cells (plC (lv, r)).toArray 91)) (.slice (some ⟨X.heap.size, 0, none⟩) 1 1) [(lv, r)] := by
  refine ⟨isSl_lit plC_len [(lv, r)] _ _ _ rfl (by simp [flat]) 1 rfl (by unfold maxLen; omega), fun p hp => ?_⟩
  rw [List.mem_singleton.1 hp]
  exact hr.below ((Below.refl _ _).alloc (Nat.le_refl _) _)
theorem isPl_bel {w W : World} {v : Value} {l : List (Int × Mr)} (h : IsPl w v l) (hb : Below w.heap.size w W) : IsPl W v l := ⟨h.1.below hb, fun r hr => (h.2 r hr).below hb⟩
/-- what one edit leads to -/
def OneOut (w : World) (k : Nat) (e : Ending) (w' : World) : Prop := ∃ (U : Vn) (er : Int), e = .returned (.tuple #[.agg U.cells, .int .i64 er]) ∧ OwnVn w' w.heap.size U ∧ (er = 0 → verOk U.l = true ∧ SmL (lvOf U.l) (k + 1)) ∧ (er = 0 ∨ er = 150) ∧ Below w.heap.size w w'
theorem one_apply (V : Vn) (k : Nat) (lv : Int) (m : Mt) (va : Value) (w : World) (hV : IsVn w V) (hv : verOk V.l = true) (hS : SmL (lvOf V.l) k) (hk : k ≤ 1000) (hp : IsPl w va [(lv, (m, .slice none 0 0))]) (hm : m.refs = []) :
    Calls Try.prog 38 #[.agg V.cells, .agg #[va, .slice none 0 0]] w fun e w' => Hid (OneOut w k e w') := by
  have hT := tabs_sm hS
  refine (vapply_any V _ _ [(lv, (m, .slice none 0 0))] [] w hV hv (by omega) hT.2 hp (isSl_nil _ _ _ _ _ (by unfold maxLen; omega)) (by simp) (fun p hp => ?_)).mono ?_
  · rw [List.mem_singleton.1 hp]; show m.refs.length ≤ _; rw [hm]; exact Nat.zero_le _
  · intro e w' h
    have h := h.out
    unfold ApOut at h
    rw [show psM [(lv, (m, (.slice none 0 0 : Value)))] = [(lv, m)] from rfl] at h
    cases ha : applyP (lvOf V.l) [] [(lv, m)] with
    | none =>
      rw [ha] at h
      exact Lib.hid ⟨Vn.none, 150, h.1, ownVn_none _ _, fun q => (by cases q), .inr rfl, h.2⟩
    | some L' =>
      rw [ha] at h
      obtain ⟨U, he, ho, hu, hb⟩ := h
      have h1 := apply_one hS (by rw [hm]; exact Nat.zero_le _) ha
      exact Lib.hid ⟨U, 0, he, ho, fun _ => ⟨by rw [verOk_lv, verOkP_congr hu]; exact h1.1, h1.2.congr hu⟩, .inl rfl, hb⟩
/-- where the walk stands ahead of a round -/
structure VwI (w : World) (vb : Nat) (V : Vn) (k : Nat) (W : World) : Prop where
  res : W.heap[w.heap.size]? = some (.cells #[.slice none 0 0, .slice none 0 0, .slice none 0 0, .slice none 0 0] 58 (0, 0))
  blk : W.heap[vb]? = some (.cells V.cells 58 (0, 0))
  vn : IsVn W V
  ver : verOk V.l = true
  sm : SmL (lvOf V.l) k
  lt : w.heap.size < vb
  bel : Below w.heap.size w W
theorem VwI.below {w W W' : World} {vb : Nat} {V : Vn} {k : Nat} (h : VwI w vb V k W) (hb : Below W.heap.size W W') : VwI w vb V k W' := ⟨blk_bels hb h.res, blk_bels hb h.blk, h.vn.below hb, h.ver, h.sm, h.lt, h.bel.trans (hb.mono h.bel.size)⟩
theorem vwI_put {w W : World} {vb k base : Nat} {V U : Vn} {aa0 aa1 aa2 aa3 : Option Addr} {an0 an1 an2 an3 ac0 ac1 ac2 ac3 : Nat} (h : VwI w vb V k W) (ho : OwnVn W base U) (hb : vb < base) (hc : U.cells = #[.slice aa0 an0 ac0, .slice aa1 an1 ac1, .slice aa2 an2 ac2, .slice aa3 an3 ac3]) (hv : verOk U.l = true) (hs : SmL (lvOf U.l) (k + 1)) : VwI w vb U (k + 1) ((((W.setCell ⟨vb, 0, none⟩ (.slice aa0 an0 ac0)).setCell ⟨vb, 1, none⟩ (.slice aa1 an1 ac1)).setCell ⟨vb, 2, none⟩ (.slice aa2 an2 ac2)).setCell ⟨vb, 3, none⟩ (.slice aa3 an3 ac3)) := by
  refine ⟨?_, ?_, ((((ho.set hb).set hb).set hb).set hb).isVn, hv, hs, h.lt, ?_⟩
  · have hne : w.heap.size ≠ vb := Nat.ne_of_lt h.lt
    exact (Below.heap_setCell _ ⟨vb, 3, none⟩ _ _ hne).trans ((Below.heap_setCell _ ⟨vb, 2, none⟩ _ _ hne).trans ((Below.heap_setCell _ ⟨vb, 1, none⟩ _ _ hne).trans ((Below.heap_setCell _ ⟨vb, 0, none⟩ _ _ hne).trans h.res)))
  · rw [hc]; exact (blk_set (blk_set (blk_set (blk_set h.blk)))).trans rfl
  · have hl := Nat.le_of_lt h.lt
    exact (((h.bel.setCell (p := ⟨vb, 0, none⟩) hl _).setCell (p := ⟨vb, 1, none⟩) hl _).setCell (p := ⟨vb, 2, none⟩) hl _).setCell (p := ⟨vb, 3, none⟩) hl _
theorem isMr_setv {W : World} {b i : Nat} {u v : Value} {l : List Mr} {cs : Array Value} {t : TypeId} {fr : Nat × Nat} (h : IsMr W v l) (hb : W.heap[b]? = some (.cells cs t fr)) (hs : ∀ (j : Nat) (y : Value), cs[j]? = some y → ∃ a n c, y = Value.slice a n c) : IsMr (W.setCell ⟨b, i, none⟩ u) v l := by
  have key : ∀ {α : Type} {enc : α → List Value} {sz : Nat} {v : Value} {l : List α}, (∀ x, ∃ q, (enc x)[0]? = some (.int .i64 q)) → IsSl enc sz W v l → IsSl enc sz (W.setCell ⟨b, i, none⟩ u) v l := by
    intro α enc sz v l hz ⟨a, c, e, h1, h2, h3⟩
    refine ⟨a, c, e, h1, h2, fun hl => ?_⟩
    obtain ⟨g, off, ea, hc⟩ := h3 hl
    refine ⟨g, off, ea, fun k x hx j y hy => ?_⟩
    have hne : g ≠ b := by
      rintro rfl
      obtain ⟨q, hq⟩ := hz x
      have h0 := hc k x hx 0 _ hq
      rw [cell_of_blk hb] at h0
      obtain ⟨a', n', c', e'⟩ := hs _ _ h0
      cases e'
    rw [← hc k x hx j y hy]
    have hh : (W.setCell ⟨b, i, none⟩ u).heap[g]? = W.heap[g]? := Below.heap_setCell W ⟨b, i, none⟩ u g hne
    simp only [World.cell?, hh]
  exact ⟨key (fun x => ⟨x.1.z, rfl⟩) h.1, fun r hr => key (fun x => ⟨x.1, rfl⟩) (h.2 r hr)⟩
theorem isVn_setv {W : World} {b : Nat} {V : Vn} {aa0 aa1 aa2 aa3 : Option Addr} {an0 an1 an2 an3 ac0 ac1 ac2 ac3 : Nat} (h : IsVn W V) (hb : W.heap[b]? = some (.cells #[.slice none 0 0, .slice none 0 0, .slice none 0 0, .slice none 0 0] 58 (0, 0))) : IsVn ((((W.setCell ⟨b, 0, none⟩ (.slice aa0 an0 ac0)).setCell ⟨b, 1, none⟩ (.slice aa1 an1 ac1)).setCell ⟨b, 2, none⟩ (.slice aa2 an2 ac2)).setCell ⟨b, 3, none⟩ (.slice aa3 an3 ac3)) V := by
  have sl : ∀ (cs : Array Value) (j : Nat) (y : Value), cs[j]? = some y → (∀ (q : Nat) (z : Value), cs[q]? = some z → ∃ a n c, z = Value.slice a n c) → ∃ a n c, y = Value.slice a n c := fun cs j y hj hs => hs j y hj
  intro n hn
  have s4 : ∀ (x0 x1 x2 x3 : Value), (∃ a n c, x0 = Value.slice a n c) → (∃ a n c, x1 = Value.slice a n c) → (∃ a n c, x2 = Value.slice a n c) → (∃ a n c, x3 = Value.slice a n c) → ∀ (j : Nat) (y : Value), (#[x0, x1, x2, x3] : Array Value)[j]? = some y → ∃ a n c, y = Value.slice a n c := by
    intro x0 x1 x2 x3 h0 h1 h2 h3 j y hj
    match j, hj with
    | 0, hj => injection hj with hj; subst hj; exact h0
    | 1, hj => injection hj with hj; subst hj; exact h1
    | 2, hj => injection hj with hj; subst hj; exact h2
    | 3, hj => injection hj with hj; subst hj; exact h3
  have b1 : (W.setCell ⟨b, 0, none⟩ (.slice aa0 an0 ac0)).heap[b]? = some (.cells #[.slice aa0 an0 ac0, .slice none 0 0, .slice none 0 0, .slice none 0 0] 58 (0, 0)) := (blk_set hb).trans rfl
  have b2 : ((W.setCell ⟨b, 0, none⟩ (.slice aa0 an0 ac0)).setCell ⟨b, 1, none⟩ (.slice aa1 an1 ac1)).heap[b]? = some (.cells #[.slice aa0 an0 ac0, .slice aa1 an1 ac1, .slice none 0 0, .slice none 0 0] 58 (0, 0)) := (blk_set b1).trans rfl
  have b3 : (((W.setCell ⟨b, 0, none⟩ (.slice aa0 an0 ac0)).setCell ⟨b, 1, none⟩ (.slice aa1 an1 ac1)).setCell ⟨b, 2, none⟩ (.slice aa2 an2 ac2)).heap[b]? = some (.cells #[.slice aa0 an0 ac0, .slice aa1 an1 ac1, .slice aa2 an2 ac2, .slice none 0 0] 58 (0, 0)) := (blk_set b2).trans rfl
  exact isMr_setv (isMr_setv (isMr_setv (isMr_setv (h n hn) hb (s4 _ _ _ _ ⟨_, _, _, rfl⟩ ⟨_, _, _, rfl⟩ ⟨_, _, _, rfl⟩ ⟨_, _, _, rfl⟩)) b1 (s4 _ _ _ _ ⟨_, _, _, rfl⟩ ⟨_, _, _, rfl⟩ ⟨_, _, _, rfl⟩ ⟨_, _, _, rfl⟩)) b2 (s4 _ _ _ _ ⟨_, _, _, rfl⟩ ⟨_, _, _, rfl⟩ ⟨_, _, _, rfl⟩ ⟨_, _, _, rfl⟩)) b3 (s4 _ _ _ _ ⟨_, _, _, rfl⟩ ⟨_, _, _, rfl⟩ ⟨_, _, _, rfl⟩ ⟨_, _, _, rfl⟩)
theorem verInfo : (Try.prog.info? 58).map (·.size) = some 4 := by kernel_rfl
/-- what the region leaves -/
def RegOut (wq : World) (k : Nat) (tv ev : Value) (wc : World) : Prop := ∃ (tb : Nat) (U : Vn) (er : Int), tv = .pointer (some ⟨tb, 0, none⟩) ∧ ev = .int .i64 er ∧ wc.heap[tb]? = some (.cells U.cells 58 (0, 0)) ∧ OwnVn wc wq.heap.size U ∧ (er = 0 → verOk U.l = true ∧ SmL (lvOf U.l) (k + 1)) ∧ (er = 0 ∨ er = 150) ∧ Below wq.heap.size wq wc
attribute [local go_sem] Oper.semAt_some
set_option maxHeartbeats 6400000 in
theorem version_any (lv : Int) (sv : Value) (ss : List ByteArray) (w : World) (hs : IsSx w sv ss) :
    Calls Try.prog 18 #[.int .i64 lv, sv] w fun e w' => Hid (∃ V : Vn, e = .returned (.agg V.cells) ∧ IsVn w' V ∧ Below w.heap.size w w') := by
  obtain ⟨xa, xc, rfl, -, -, -⟩ := id hs
  obtain ⟨-, hxc, hxm, hx⟩ := hs.at
  obtain ⟨N, hN⟩ : ∃ N, N = ss.length := ⟨_, rfl⟩
  rw [← hN] at hxc hx ⊢
  have HN := Lib.hid hN
  have Hx := Lib.hid hx
  have hAl : Below w.heap.size w ((w.alloc (.cells #[.slice none 0 0, .slice none 0 0, .slice none 0 0, .slice none 0 0] 58)).alloc (.cells #[.slice none 0 0, .slice none 0 0, .slice none 0 0, .slice none 0 0] 58)) := ((Below.refl _ _).alloc (Nat.le_refl _) _).alloc (by simp) _
  have HI : Hid (VwI w (w.heap.size + 1) Vn.none 0 ((w.alloc (.cells #[.slice none 0 0, .slice none 0 0, .slice none 0 0, .slice none 0 0] 58)).alloc (.cells #[.slice none 0 0, .slice none 0 0, .slice none 0 0, .slice none 0 0] 58))) := Lib.hid ⟨blk_old (blk_of_alloc _ _) _, blk_new (by simp only [World.size_alloc]) _, isVn_none _, rfl, fun n hn => ⟨Nat.le_refl _, fun m hm => by cases hm⟩, Nat.lt_succ_self _, hAl⟩
  clear hs hN hx hAl
  obtain ⟨vb, hvb⟩ : ∃ b, b = w.heap.size + 1 := ⟨_, rfl⟩
  have Hvb := Lib.hid hvb
  rw [← hvb] at HI
  clear hvb
  go_enter Try.func18, Try.ntmps18
  go_upto_region 2 with fail
  rw [← Hvb.out]
  generalize (w.alloc (.cells #[.slice none 0 0, .slice none 0 0, .slice none 0 0, .slice none 0 0] 58)).alloc (.cells #[.slice none 0 0, .slice none 0 0, .slice none 0 0, .slice none 0 0] 58) = W1 at *
  by_cases hbig : lv < 0 ∨ 3 < lv ∨ 20 < N
  · have HR := Lib.hid HI.out.res
    have HB := Lib.hid HI.out.blk
    have HF0 : Hid ((((((W1.setCell ⟨w.heap.size, 0, none⟩ (.slice none 0 0)).setCell ⟨w.heap.size, 1, none⟩ (.slice none 0 0)).setCell ⟨w.heap.size, 2, none⟩ (.slice none 0 0)).setCell ⟨w.heap.size, 3, none⟩ (.slice none 0 0))).heap[w.heap.size]? = some (.cells #[.slice none 0 0, .slice none 0 0, .slice none 0 0, .slice none 0 0] 58 (0, 0)) ∧ Below w.heap.size w (((((W1.setCell ⟨w.heap.size, 0, none⟩ (.slice none 0 0)).setCell ⟨w.heap.size, 1, none⟩ (.slice none 0 0)).setCell ⟨w.heap.size, 2, none⟩ (.slice none 0 0)).setCell ⟨w.heap.size, 3, none⟩ (.slice none 0 0)))) := Lib.hid ⟨(blk_set (blk_set (blk_set (blk_set HR.out)))).trans rfl, (((HI.out.bel.setCell (p := ⟨w.heap.size, 0, none⟩) (Nat.le_refl _) _).setCell (p := ⟨w.heap.size, 1, none⟩) (Nat.le_refl _) _).setCell (p := ⟨w.heap.size, 2, none⟩) (Nat.le_refl _) _).setCell (p := ⟨w.heap.size, 3, none⟩) (Nat.le_refl _) _⟩
    have hpc := fun j => cell_of_blk HR.out j
    have hpz := fun j => frozen_of_blk HR.out j
    have hbc : W1.heap[vb]? = some (.cells #[.slice none 0 0, .slice none 0 0, .slice none 0 0, .slice none 0 0] 58 (0, 0)) := HB.out
    have hbc2 := fun j => cell_of_blk hbc j
    obtain ⟨g, hg⟩ : ∃ g : Bool, g = (decide (lv < 0) || decide (3 < lv) || decide (20 < N)) := ⟨_, rfl⟩
    by_cases h0 : lv < 0
    · have d0 : decide (lv < 0) = true := decide_eq_true h0
      clear hbc hg hbig
      go_wp2_with fail
      refine bodyPost_ret (v := .agg #[.slice none 0 0, .slice none 0 0, .slice none 0 0, .slice none 0 0]) ?_ rfl ?_
      · exact results_cell_row Try.results18 _ _ w.heap.size 58 _ (0, 0) _ rfl HF0.out.1 Try.underlying58 rfl verInfo
      · exact Lib.hid ⟨Vn.none, rfl, isVn_none _, HF0.out.2⟩
    · have d0 : decide (lv < 0) = false := decide_eq_false h0
      by_cases h3 : 3 < lv
      · have d3 : decide (lv > 3) = true := decide_eq_true h3
        have d3' : decide (3 < lv) = true := decide_eq_true h3
        clear hbc hg hbig
        go_wp2_with fail
        refine bodyPost_ret (v := .agg #[.slice none 0 0, .slice none 0 0, .slice none 0 0, .slice none 0 0]) ?_ rfl ?_
        · exact results_cell_row Try.results18 _ _ w.heap.size 58 _ (0, 0) _ rfl HF0.out.1 Try.underlying58 rfl verInfo
        · exact Lib.hid ⟨Vn.none, rfl, isVn_none _, HF0.out.2⟩
      · have d3 : decide (lv > 3) = false := decide_eq_false (by omega)
        have d3' : decide (3 < lv) = false := decide_eq_false h3
        have d20 : decide ((N : Int) > 20) = true := decide_eq_true (by omega)
        have d20' : decide ((20 : Int) < (N : Int)) = true := decide_eq_true (by omega)
        clear hbc hg hbig
        go_wp2_with fail
        refine bodyPost_ret (v := .agg #[.slice none 0 0, .slice none 0 0, .slice none 0 0, .slice none 0 0]) ?_ rfl ?_
        · exact results_cell_row Try.results18 _ _ w.heap.size 58 _ (0, 0) _ rfl HF0.out.1 Try.underlying58 rfl verInfo
        · exact Lib.hid ⟨Vn.none, rfl, isVn_none _, HF0.out.2⟩
  · have h0 : ¬ lv < 0 := by omega
    have h3 : ¬ 3 < lv := by omega
    have h20 : ¬ 20 < N := by omega
    have d0 : decide (lv < 0) = false := decide_eq_false h0
    have d3 : decide (lv > 3) = false := decide_eq_false (by omega)
    have d3' : decide (3 < lv) = false := decide_eq_false (by omega)
    have d20 : decide ((N : Int) > 20) = false := decide_eq_false (by omega)
    have d20' : decide ((20 : Int) < (N : Int)) = false := decide_eq_false (by omega)
    have hN20 : N ≤ 20 := by omega
    clear hbig h20
    go_wp2_with fail
    clear d0 d3 d3' d20 d20'
    go_loopw [6] (fun iv wr => ∃ k : Nat, 2 * k ≤ N + 1 ∧ iv = .int .i64 (2 * (k : Int) + 1) ∧ ∃ V : Vn, VwI w vb V k wr) (fun iv _ => (N : Nat) + 2 - (intOf iv).toNat)
    case atStart => exact ⟨0, by omega, rfl, Vn.none, HI.out⟩
    case round =>
      clear HI
      obtain ⟨wq, rfl⟩ : ∃ wq : World, wq = wr := ⟨_, rfl⟩
      obtain ⟨k, hk, rfl, V, hD⟩ := hrel
      have HD := Lib.hid hD
      obtain ⟨xa0, xn0, xc0, xa1, xn1, xc1, xa2, xn2, xc2, xa3, xn3, xc3, hc⟩ := vn_agg hD.vn
      have Hc := Lib.hid hc
      have HV : Hid (wq.heap[vb]? = some (.cells #[.slice xa0 xn0 xc0, .slice xa1 xn1 xc1, .slice xa2 xn2 xc2, .slice xa3 xn3 xc3] 58 (0, 0))) := Lib.hid (by rw [← hc]; exact hD.blk)
      obtain ⟨i, hi⟩ : ∃ i : Int, i = 2 * (k : Int) + 1 := ⟨_, rfl⟩
      rw [← hi]
      by_cases hlt : i < (N : Int)
      · obtain ⟨b, off, rfl, hcell⟩ := Hx.out (by omega)
        obtain ⟨sa, hsa⟩ : ∃ r, ss[2 * k]? = some r := ⟨_, List.getElem?_eq_getElem (by rw [← HN.out]; omega)⟩
        obtain ⟨sb, hsb⟩ : ∃ r, ss[2 * k + 1]? = some r := ⟨_, List.getElem?_eq_getElem (by rw [← HN.out]; omega)⟩
        have ca : wq.cell? ⟨b, off + (i.toNat - 1), none⟩ = some (.string sa) := by
          have := hcell (2 * k) sa hsa 0 _ rfl
          rw [show off + (i.toNat - 1) = off + 2 * k * 1 + 0 by omega]
          exact (hD.bel.cell (block_lt_of_cell this)).trans this
        have cb : wq.cell? ⟨b, off + i.toNat, none⟩ = some (.string sb) := by
          have := hcell (2 * k + 1) sb hsb 0 _ rfl
          rw [show off + i.toNat = off + (2 * k + 1) * 1 + 0 by omega]
          exact (hD.bel.cell (block_lt_of_cell this)).trans this
        have hw1 : IntKind.i64.wrap (i - 1) = i - 1 := IntWalk.i64_in _ (by omega)
        have hi0 : (0 : Int) ≤ i - 1 := by omega
        have hi3 : (1 : Int) ≤ i := by omega
        have hi1 : i - 1 < (N : Int) := by omega
        have hi2 : (0 : Int) ≤ i := by omega
        have HAp : Hid (∀ A : World, Below wq.heap.size wq A → ∀ A' : World, Below (A.alloc (.cells #[.int .i64 lv, .int .i64 i, .int .i64 1, .string sa, .int .i64 1, .int .i64 1, .string sb, .int .i64 0, .int .i64 1, .slice none 0 0] 91)).heap.size (A.alloc (.cells #[.int .i64 lv, .int .i64 i, .int .i64 1, .string sa, .int .i64 1, .int .i64 1, .string sb, .int .i64 0, .int .i64 1, .slice none 0 0] 91)) A' → Calls Try.prog 38 #[.agg #[.slice xa0 xn0 xc0, .slice xa1 xn1 xc1, .slice xa2 xn2 xc2, .slice xa3 xn3 xc3], .agg #[.slice (some ⟨A.heap.size, 0, none⟩) 1 1, .slice none 0 0]] A' fun e w' => Hid (OneOut A' k e w')) := Lib.hid (fun A hA A' hA' => by
          rw [← hc]
          refine one_apply V k lv ⟨i, 1, ⟨sa, 1, 1⟩, ⟨sb, 0, 1⟩, []⟩ _ A' (hD.vn.below (hA.trans (((Below.refl A.heap.size A).alloc (Nat.le_refl _) _ |>.trans (hA'.mono (by simp))).mono hA.size))) hD.ver hD.sm (by omega) (isPl_bel (isPl_new A lv (⟨i, 1, ⟨sa, 1, 1⟩, ⟨sb, 0, 1⟩, []⟩, .slice none 0 0) (isSl_nil _ _ _ _ _ (by unfold maxLen; omega))) hA') rfl)
        have hd : decide (i < (N : Int)) = true := decide_eq_true hlt
        have Hi := Lib.hid hi
        clear hD hc hcell hsa hsb hi
        have c0 := (cell_of_blk HV.out 0).trans (show _ = some (.slice xa0 xn0 xc0) from rfl)
        have c1 := (cell_of_blk HV.out 1).trans (show _ = some (.slice xa1 xn1 xc1) from rfl)
        have c2 := (cell_of_blk HV.out 2).trans (show _ = some (.slice xa2 xn2 xc2) from rfl)
        have c3 := (cell_of_blk HV.out 3).trans (show _ = some (.slice xa3 xn3 xc3) from rfl)
        go_upto_region 7 with fail
        clear hd
        go_cut [7, 8] (fun tv ev wc => RegOut wq k tv ev wc)
        case first =>
          refine wp_region_held_drew (S := fun V' => Hid (Below wq.heap.size wq V')) (by kernel_rfl) (Lib.hid ((Below.refl _ _).drew)) (fun hS0 => ?_)
          refine wpAnyH_take (i := 0) (oi := { dst := some 28, op := Op.load 58 (Operand.tmp 5), type := 58, pos := "law.go:65", after := #[], guard := none }) (v := ?_) rfl (by kernel_rfl) (by kernel_rfl) (by kernel_rfl) (fun _ _ _ h => h) (Or.inl ⟨by rfl, ?hy1⟩) hS0 ?_
          case hy1 => (intro V hSw; (try dsimp only at hSw); have q0 := grow_cell hSw.out (block_lt_of_cell c0) c0; have q1 := grow_cell hSw.out (block_lt_of_cell c1) c1; have q2 := grow_cell hSw.out (block_lt_of_cell c2) c2; have q3 := grow_cell hSw.out (block_lt_of_cell c3) c3; have q4 := grow_cell hSw.out (block_lt_of_cell ca) ca; have q5 := grow_cell hSw.out (block_lt_of_cell cb) cb; clear hSw; go_simp; try with_reducible rfl)
          try simp only [Act.put, List.setIfInBounds_toArray, List.set_cons_zero, List.set_cons_succ]
          refine wpAnyH_take (i := 1) (oi := { dst := some 29, op := Op.move (Operand.tmp 0), type := 3, pos := "law.go:65", after := #[], guard := none }) (v := ?_) rfl (by kernel_rfl) (by kernel_rfl) (by kernel_rfl) (fun _ _ _ h => h) (Or.inl ⟨by rfl, ?hy2⟩) hS0 ?_
          case hy2 => (intro V hSw; (try dsimp only at hSw); clear hSw; go_simp; try with_reducible rfl)
          try simp only [Act.put, List.setIfInBounds_toArray, List.set_cons_zero, List.set_cons_succ]
          refine wpAnyH_take (i := 2) (oi := { dst := some 30, op := Op.move (Operand.tmp 6), type := 3, pos := "law.go:65", after := #[], guard := none }) (v := ?_) rfl (by kernel_rfl) (by kernel_rfl) (by kernel_rfl) (fun _ _ _ h => h) (Or.inl ⟨by rfl, ?hy3⟩) hS0 ?_
          case hy3 => (intro V hSw; (try dsimp only at hSw); clear hSw; go_simp; try with_reducible rfl)
          try simp only [Act.put, List.setIfInBounds_toArray, List.set_cons_zero, List.set_cons_succ]
          refine wpAnyH_take (i := 3) (oi := { dst := some 31, op := Op.move (Operand.tmp 1), type := 52, pos := "law.go:65", after := #[], guard := none }) (v := ?_) rfl (by kernel_rfl) (by kernel_rfl) (by kernel_rfl) (fun _ _ _ h => h) (Or.inl ⟨by rfl, ?hy4⟩) hS0 ?_
          case hy4 => (intro V hSw; (try dsimp only at hSw); clear hSw; go_simp; try with_reducible rfl)
          try simp only [Act.put, List.setIfInBounds_toArray, List.set_cons_zero, List.set_cons_succ]
          refine wpAnyH_take (i := 4) (oi := { dst := some 32, op := Op.move (Operand.tmp 6), type := 3, pos := "law.go:65", after := #[], guard := none }) (v := ?_) rfl (by kernel_rfl) (by kernel_rfl) (by kernel_rfl) (fun _ _ _ h => h) (Or.inl ⟨by rfl, ?hy5⟩) hS0 ?_
          case hy5 => (intro V hSw; (try dsimp only at hSw); clear hSw; go_simp; try with_reducible rfl)
          try simp only [Act.put, List.setIfInBounds_toArray, List.set_cons_zero, List.set_cons_succ]
          refine wpAnyH_take (i := 5) (oi := { dst := some 33, op := Op.binOp BinOp.sub 3 (Operand.tmp 32) (Operand.const (Value.int IntKind.i64 1)) 3, type := 3, pos := "law.go:65", after := #[{ on := 4, ground := Ground.data }], guard := none }) (v := ?_) rfl (by kernel_rfl) (by kernel_rfl) (by kernel_rfl) (fun _ _ _ h => h) (Or.inl ⟨by rfl, ?hy6⟩) hS0 ?_
          case hy6 => (intro V hSw; (try dsimp only at hSw); clear hSw; go_simp; try with_reducible rfl)
          try simp only [Act.put, List.setIfInBounds_toArray, List.set_cons_zero, List.set_cons_succ]
          refine wpAnyH_take (i := 6) (oi := { dst := some 34, op := Op.indexAddr 52 (Operand.tmp 31) (Operand.tmp 33), type := 0, pos := "law.go:65", after := #[{ on := 3, ground := Ground.data }, { on := 5, ground := Ground.data }], guard := none }) (v := ?_) rfl (by kernel_rfl) (by kernel_rfl) (by kernel_rfl) (fun _ _ _ h => h) (Or.inl ⟨by rfl, ?hy7⟩) hS0 ?_
          case hy7 => (intro V hSw; (try dsimp only at hSw); clear hSw; go_simp; try with_reducible rfl)
          try simp only [Act.put, List.setIfInBounds_toArray, List.set_cons_zero, List.set_cons_succ]
          refine wpAnyH_take (i := 7) (oi := { dst := some 35, op := Op.load 9 (Operand.tmp 34), type := 9, pos := "law.go:65", after := #[{ on := 6, ground := Ground.data }], guard := none }) (v := ?_) rfl (by kernel_rfl) (by kernel_rfl) (by kernel_rfl) (fun _ _ _ h => h) (Or.inl ⟨by rfl, ?hy8⟩) hS0 ?_
          case hy8 => (intro V hSw; (try dsimp only at hSw); have q0 := grow_cell hSw.out (block_lt_of_cell c0) c0; have q1 := grow_cell hSw.out (block_lt_of_cell c1) c1; have q2 := grow_cell hSw.out (block_lt_of_cell c2) c2; have q3 := grow_cell hSw.out (block_lt_of_cell c3) c3; have q4 := grow_cell hSw.out (block_lt_of_cell ca) ca; have q5 := grow_cell hSw.out (block_lt_of_cell cb) cb; clear hSw; go_simp; try with_reducible rfl)
          try simp only [Act.put, List.setIfInBounds_toArray, List.set_cons_zero, List.set_cons_succ]
          refine wpAnyH_take (i := 8) (oi := { dst := some 36, op := Op.build 28 #[(0, Operand.tmp 35), (1, Operand.const (Value.int IntKind.i64 1)), (2, Operand.const (Value.int IntKind.i64 1))], type := 28, pos := "law.go:65", after := #[{ on := 7, ground := Ground.data }], guard := none }) (v := ?_) rfl (by kernel_rfl) (by kernel_rfl) (by kernel_rfl) (fun _ _ _ h => h) (Or.inl ⟨by rfl, ?hy9⟩) hS0 ?_
          case hy9 => (intro V hSw; (try dsimp only at hSw); clear hSw; go_simp; try with_reducible rfl)
          try simp only [Act.put, List.setIfInBounds_toArray, List.set_cons_zero, List.set_cons_succ]
          refine wpAnyH_take (i := 9) (oi := { dst := some 37, op := Op.move (Operand.tmp 1), type := 52, pos := "law.go:65", after := #[], guard := none }) (v := ?_) rfl (by kernel_rfl) (by kernel_rfl) (by kernel_rfl) (fun _ _ _ h => h) (Or.inl ⟨by rfl, ?hy10⟩) hS0 ?_
          case hy10 => (intro V hSw; (try dsimp only at hSw); clear hSw; go_simp; try with_reducible rfl)
          try simp only [Act.put, List.setIfInBounds_toArray, List.set_cons_zero, List.set_cons_succ]
          refine wpAnyH_take (i := 10) (oi := { dst := some 38, op := Op.move (Operand.tmp 6), type := 3, pos := "law.go:65", after := #[], guard := none }) (v := ?_) rfl (by kernel_rfl) (by kernel_rfl) (by kernel_rfl) (fun _ _ _ h => h) (Or.inl ⟨by rfl, ?hy11⟩) hS0 ?_
          case hy11 => (intro V hSw; (try dsimp only at hSw); clear hSw; go_simp; try with_reducible rfl)
          try simp only [Act.put, List.setIfInBounds_toArray, List.set_cons_zero, List.set_cons_succ]
          refine wpAnyH_take (i := 11) (oi := { dst := some 39, op := Op.indexAddr 52 (Operand.tmp 37) (Operand.tmp 38), type := 0, pos := "law.go:65", after := #[{ on := 9, ground := Ground.data }, { on := 10, ground := Ground.data }], guard := none }) (v := ?_) rfl (by kernel_rfl) (by kernel_rfl) (by kernel_rfl) (fun _ _ _ h => h) (Or.inl ⟨by rfl, ?hy12⟩) hS0 ?_
          case hy12 => (intro V hSw; (try dsimp only at hSw); clear hSw; go_simp; try with_reducible rfl)
          try simp only [Act.put, List.setIfInBounds_toArray, List.set_cons_zero, List.set_cons_succ]
          refine wpAnyH_take (i := 12) (oi := { dst := some 40, op := Op.load 9 (Operand.tmp 39), type := 9, pos := "law.go:65", after := #[{ on := 11, ground := Ground.data }], guard := none }) (v := ?_) rfl (by kernel_rfl) (by kernel_rfl) (by kernel_rfl) (fun _ _ _ h => h) (Or.inl ⟨by rfl, ?hy13⟩) hS0 ?_
          case hy13 => (intro V hSw; (try dsimp only at hSw); have q0 := grow_cell hSw.out (block_lt_of_cell c0) c0; have q1 := grow_cell hSw.out (block_lt_of_cell c1) c1; have q2 := grow_cell hSw.out (block_lt_of_cell c2) c2; have q3 := grow_cell hSw.out (block_lt_of_cell c3) c3; have q4 := grow_cell hSw.out (block_lt_of_cell ca) ca; have q5 := grow_cell hSw.out (block_lt_of_cell cb) cb; clear hSw; go_simp; try with_reducible rfl)
          try simp only [Act.put, List.setIfInBounds_toArray, List.set_cons_zero, List.set_cons_succ]
          refine wpAnyH_take (i := 13) (oi := { dst := some 41, op := Op.build 28 #[(0, Operand.tmp 40), (1, Operand.const (Value.int IntKind.i64 0)), (2, Operand.const (Value.int IntKind.i64 1))], type := 28, pos := "law.go:65", after := #[{ on := 12, ground := Ground.data }], guard := none }) (v := ?_) rfl (by kernel_rfl) (by kernel_rfl) (by kernel_rfl) (fun _ _ _ h => h) (Or.inl ⟨by rfl, ?hy14⟩) hS0 ?_
          case hy14 => (intro V hSw; (try dsimp only at hSw); clear hSw; go_simp; try with_reducible rfl)
          try simp only [Act.put, List.setIfInBounds_toArray, List.set_cons_zero, List.set_cons_succ]
          refine wpAnyH_take (i := 14) (oi := { dst := some 42, op := Op.build 47 #[(0, Operand.tmp 30), (1, Operand.const (Value.int IntKind.i64 1)), (2, Operand.tmp 36), (3, Operand.tmp 41)], type := 47, pos := "law.go:65", after := #[{ on := 2, ground := Ground.data }, { on := 8, ground := Ground.data }, { on := 13, ground := Ground.data }], guard := none }) (v := ?_) rfl (by kernel_rfl) (by kernel_rfl) (by kernel_rfl) (fun _ _ _ h => h) (Or.inl ⟨by rfl, ?hy15⟩) hS0 ?_
          case hy15 => (intro V hSw; (try dsimp only at hSw); clear hSw; go_simp; try with_reducible rfl)
          try simp only [Act.put, List.setIfInBounds_toArray, List.set_cons_zero, List.set_cons_succ]
          refine wpAnyH_take (i := 15) (oi := { dst := some 43, op := Op.build 91 #[(0, Operand.tmp 29), (1, Operand.tmp 42)], type := 91, pos := "law.go:65", after := #[{ on := 1, ground := Ground.data }, { on := 14, ground := Ground.data }], guard := none }) (v := ?_) rfl (by kernel_rfl) (by kernel_rfl) (by kernel_rfl) (fun _ _ _ h => h) (Or.inl ⟨by rfl, ?hy16⟩) hS0 ?_
          case hy16 => (intro V hSw; (try dsimp only at hSw); clear hSw; go_simp; try with_reducible rfl)
          try simp only [Act.put, List.setIfInBounds_toArray, List.set_cons_zero, List.set_cons_succ]
          refine wpAnyH_ready (rs := [16, 22]) (by kernel_rfl) (by simp) (AllReadyH.cons rfl (fun K hK => ?_) (AllReadyH.cons rfl (fun K hK => ?_) AllReadyH.nil))
          · try clear ca cb hw1 hi0 hi1 hi2 hi3 c0 c1 c2 c3 hlt hk h0 h3 hN20 hxc hxm
            go_simp
            have hS17 := Lib.hid (hS0.out.alloc hS0.out.size (.cells #[.int .i64 lv, .int .i64 i, .int .i64 1, .string sa, .int .i64 1, .int .i64 1, .string sb, .int .i64 0, .int .i64 1, .slice none 0 0] 91))
            have hap17 := Lib.hid (HAp.out _ hS0.out)
            have hbp17 := Lib.hid (Below.refl ((wq.drew.alloc (.cells #[.int .i64 lv, .int .i64 i, .int .i64 1, .string sa, .int .i64 1, .int .i64 1, .string sb, .int .i64 0, .int .i64 1, .slice none 0 0] 91))).heap.size (wq.drew.alloc (.cells #[.int .i64 lv, .int .i64 i, .int .i64 1, .string sa, .int .i64 1, .int .i64 1, .string sb, .int .i64 0, .int .i64 1, .slice none 0 0] 91)))
            refine hK.out _ _ hS17 (fun _ => ?_)
            clear hK K
            try simp only [Act.put, List.setIfInBounds_toArray, List.set_cons_zero, List.set_cons_succ]
            refine wpAnyH_take (i := 17) (oi := { dst := some 45, op := Op.build 94 #[(0, Operand.tmp 44)], type := 94, pos := "law.go:65", after := #[{ on := 16, ground := Ground.data }], guard := none }) (v := ?_) rfl (by kernel_rfl) (by kernel_rfl) (by kernel_rfl) (fun _ _ _ h => h) (Or.inl ⟨by rfl, ?hy18⟩) hS17 ?_
            case hy18 => (intro V hSw; (try dsimp only at hSw); clear hSw; go_simp; try with_reducible rfl)
            try simp only [Act.put, List.setIfInBounds_toArray, List.set_cons_zero, List.set_cons_succ]
            refine wpAnyH_ready (rs := [18, 22]) (by kernel_rfl) (by simp) (AllReadyH.cons rfl (fun K hK => ?_) (AllReadyH.cons rfl (fun K hK => ?_) AllReadyH.nil))
            · go_simp
              refine (hap17.out _ hbp17.out).mono ?_
              rintro e wv19 hq19
              obtain ⟨U19, er19, rfl, ho19, hg19, he19, hv19⟩ := hq19.out
              have hS19 := Lib.hid (hS17.out.trans (hv19.mono hS17.out.size))
              obtain ⟨ua0, un0, uc0, ua1, un1, uc1, ua2, un2, uc2, ua3, un3, uc3, hcu⟩ := vn_agg ho19.isVn
              have Hcu := Lib.hid hcu
              rw [hcu]
              have Ho19 := Lib.hid ho19
              have Hge19 := Lib.hid (And.intro hg19 he19)
              clear hq19 ho19 hg19 he19 hv19 hcu
              refine hK.out _ _ hS19 (fun _ => ?_)
              clear hK K
              try simp only [Act.put, List.setIfInBounds_toArray, List.set_cons_zero, List.set_cons_succ]
              refine wpAnyH_take (i := 19) (oi := { dst := some 27, op := Op.move (Operand.tmp 46), type := 88, pos := "law.go:65", after := #[{ on := 18, ground := Ground.data }], guard := none }) (v := ?_) rfl (by kernel_rfl) (by kernel_rfl) (by kernel_rfl) (fun _ _ _ h => h) (Or.inl ⟨by rfl, ?hy20⟩) hS19 ?_
              case hy20 => (intro V hSw; (try dsimp only at hSw); clear hSw; go_simp; try with_reducible rfl)
              try simp only [Act.put, List.setIfInBounds_toArray, List.set_cons_zero, List.set_cons_succ]
              refine wpAnyH_take (i := 20) (oi := { dst := some 47, op := Op.extract (Operand.tmp 27) 0, type := 58, pos := "law.go:65", after := #[{ on := 19, ground := Ground.data }], guard := none }) (v := ?_) rfl (by kernel_rfl) (by kernel_rfl) (by kernel_rfl) (fun _ _ _ h => h) (Or.inl ⟨by rfl, ?hy21⟩) hS19 ?_
              case hy21 => (intro V hSw; (try dsimp only at hSw); clear hSw; go_simp; try with_reducible rfl)
              try simp only [Act.put, List.setIfInBounds_toArray, List.set_cons_zero, List.set_cons_succ]
              refine wpAnyH_take (i := 21) (oi := { dst := some 48, op := Op.extract (Operand.tmp 27) 1, type := 36, pos := "law.go:65", after := #[{ on := 19, ground := Ground.data }, { on := 23, ground := Ground.gcOnly Departure.lateStores }], guard := none }) (v := ?_) rfl (by kernel_rfl) (by kernel_rfl) (by kernel_rfl) (fun _ _ _ h => h) (Or.inl ⟨by rfl, ?hy22⟩) hS19 ?_
              case hy22 => (intro V hSw; (try dsimp only at hSw); clear hSw; go_simp; try with_reducible rfl)
              try simp only [Act.put, List.setIfInBounds_toArray, List.set_cons_zero, List.set_cons_succ]
              refine wpAnyH_ready (rs := [22]) (by kernel_rfl) (by simp) (AllReadyH.cons rfl (fun K hK => ?_) AllReadyH.nil)
              try clear ca cb hw1 hi0 hi1 hi2 hi3 c0 c1 c2 c3 hlt hk h0 h3 hN20 hxc hxm
              go_simp
              have hp23 : ((wv19.alloc (.cells #[.slice none 0 0, .slice none 0 0, .slice none 0 0, .slice none 0 0] 58))).heap[wv19.heap.size]? = some (.cells #[.slice none 0 0, .slice none 0 0, .slice none 0 0, .slice none 0 0] 58 (0, 0)) := blk_new (by rfl) _
              have hS23 := Lib.hid (hS19.out.alloc hS19.out.size (.cells #[.slice none 0 0, .slice none 0 0, .slice none 0 0, .slice none 0 0] 58))
              have hbp23 := Lib.hid (hbp17.out.alloc hbp17.out.size (.cells #[.slice none 0 0, .slice none 0 0, .slice none 0 0, .slice none 0 0] 58))
              refine hK.out _ _ hS23 (fun _ => ?_)
              clear hK K
              try simp only [Act.put, List.setIfInBounds_toArray, List.set_cons_zero, List.set_cons_succ]
              refine wpAnyH_ready (rs := [23]) (by kernel_rfl) (by simp) (AllReadyH.cons rfl (fun K hK => ?_) AllReadyH.nil)
              go_simp
              have hS24 := Lib.hid (hS19.out.alloc hS19.out.size (.cells #[.slice ua0 un0 uc0, .slice ua1 un1 uc1, .slice ua2 un2 uc2, .slice ua3 un3 uc3] 58))
              have hb24 := blk_of_alloc wv19 (.cells #[.slice ua0 un0 uc0, .slice ua1 un1 uc1, .slice ua2 un2 uc2, .slice ua3 un3 uc3] 58)
              have ho24 := Ho19.out.below ((Below.refl wv19.heap.size wv19).alloc (Nat.le_refl _) (.cells #[.slice ua0 un0 uc0, .slice ua1 un1 uc1, .slice ua2 un2 uc2, .slice ua3 un3 uc3] 58))
              refine hK.out _ _ hS24 (fun _ => ?_)
              clear hK K
              try simp only [Act.put, List.setIfInBounds_toArray, List.set_cons_zero, List.set_cons_succ]
              refine wpAnyH_ready (rs := [24]) (by kernel_rfl) (by simp) (AllReadyH.cons rfl (fun K hK => ?_) AllReadyH.nil)
              go_simp
              refine hK.out _ _ hS24 (fun _ => ?_)
              clear hK K
              try simp only [Act.put, List.setIfInBounds_toArray, List.set_cons_zero, List.set_cons_succ]
              refine wpAnyH_done (by kernel_rfl) ?_ _
              go_wp2_with fail
              go_meet
              case rel => exact ⟨_, U19, er19, rfl, rfl, by rw [Hcu.out]; exact hb24, ho24.mono hS17.out.size, Hge19.out.1, Hge19.out.2, hS24.out⟩
            · try clear ca cb hw1 hi0 hi1 hi2 hi3 c0 c1 c2 c3 hlt hk h0 h3 hN20 hxc hxm
              go_simp
              have hp25 : (((wq.drew.alloc (.cells #[.int .i64 lv, .int .i64 i, .int .i64 1, .string sa, .int .i64 1, .int .i64 1, .string sb, .int .i64 0, .int .i64 1, .slice none 0 0] 91)).alloc (.cells #[.slice none 0 0, .slice none 0 0, .slice none 0 0, .slice none 0 0] 58))).heap[wq.heap.size + 1]? = some (.cells #[.slice none 0 0, .slice none 0 0, .slice none 0 0, .slice none 0 0] 58 (0, 0)) := blk_new (by rw [World.size_alloc]; rfl) _
              have hS25 := Lib.hid (hS17.out.alloc hS17.out.size (.cells #[.slice none 0 0, .slice none 0 0, .slice none 0 0, .slice none 0 0] 58))
              have hbp25 := Lib.hid (hbp17.out.alloc hbp17.out.size (.cells #[.slice none 0 0, .slice none 0 0, .slice none 0 0, .slice none 0 0] 58))
              refine hK.out _ _ hS25 (fun _ => ?_)
              clear hK K
              try simp only [Act.put, List.setIfInBounds_toArray, List.set_cons_zero, List.set_cons_succ]
              refine wpAnyH_ready (rs := [18]) (by kernel_rfl) (by simp) (AllReadyH.cons rfl (fun K hK => ?_) AllReadyH.nil)
              go_simp
              refine (hap17.out _ hbp25.out).mono ?_
              rintro e wv26 hq26
              obtain ⟨U26, er26, rfl, ho26, hg26, he26, hv26⟩ := hq26.out
              have hS26 := Lib.hid (hS25.out.trans (hv26.mono hS25.out.size))
              obtain ⟨ua0, un0, uc0, ua1, un1, uc1, ua2, un2, uc2, ua3, un3, uc3, hcu⟩ := vn_agg ho26.isVn
              have Hcu := Lib.hid hcu
              rw [hcu]
              have Ho26 := Lib.hid ho26
              have Hge26 := Lib.hid (And.intro hg26 he26)
              have hp26 := blk_bels hv26 hp25
              have htb26 := Lib.hid (blk_lt hp25)
              clear hq26 ho26 hg26 he26 hv26 hcu
              refine hK.out _ _ hS26 (fun _ => ?_)
              clear hK K
              try simp only [Act.put, List.setIfInBounds_toArray, List.set_cons_zero, List.set_cons_succ]
              refine wpAnyH_take (i := 19) (oi := { dst := some 27, op := Op.move (Operand.tmp 46), type := 88, pos := "law.go:65", after := #[{ on := 18, ground := Ground.data }], guard := none }) (v := ?_) rfl (by kernel_rfl) (by kernel_rfl) (by kernel_rfl) (fun _ _ _ h => h) (Or.inl ⟨by rfl, ?hy27⟩) hS26 ?_
              case hy27 => (intro V hSw; (try dsimp only at hSw); clear hSw; go_simp; try with_reducible rfl)
              try simp only [Act.put, List.setIfInBounds_toArray, List.set_cons_zero, List.set_cons_succ]
              refine wpAnyH_take (i := 20) (oi := { dst := some 47, op := Op.extract (Operand.tmp 27) 0, type := 58, pos := "law.go:65", after := #[{ on := 19, ground := Ground.data }], guard := none }) (v := ?_) rfl (by kernel_rfl) (by kernel_rfl) (by kernel_rfl) (fun _ _ _ h => h) (Or.inl ⟨by rfl, ?hy28⟩) hS26 ?_
              case hy28 => (intro V hSw; (try dsimp only at hSw); clear hSw; go_simp; try with_reducible rfl)
              try simp only [Act.put, List.setIfInBounds_toArray, List.set_cons_zero, List.set_cons_succ]
              refine wpAnyH_take (i := 21) (oi := { dst := some 48, op := Op.extract (Operand.tmp 27) 1, type := 36, pos := "law.go:65", after := #[{ on := 19, ground := Ground.data }, { on := 23, ground := Ground.gcOnly Departure.lateStores }], guard := none }) (v := ?_) rfl (by kernel_rfl) (by kernel_rfl) (by kernel_rfl) (fun _ _ _ h => h) (Or.inl ⟨by rfl, ?hy29⟩) hS26 ?_
              case hy29 => (intro V hSw; (try dsimp only at hSw); clear hSw; go_simp; try with_reducible rfl)
              try simp only [Act.put, List.setIfInBounds_toArray, List.set_cons_zero, List.set_cons_succ]
              refine wpAnyH_ready (rs := [23]) (by kernel_rfl) (by simp) (AllReadyH.cons rfl (fun K hK => ?_) AllReadyH.nil)
              have hpc := fun j => cell_of_blk hp26 j
              have hpz := fun j => frozen_of_blk hp26 j
              have hS30 := Lib.hid ((((hS26.out.setCell (p := ⟨wq.heap.size + 1, 0, none⟩) (by show wq.heap.size ≤ wq.heap.size + 1; omega) (.slice ua0 un0 uc0)).setCell (p := ⟨wq.heap.size + 1, 1, none⟩) (by show wq.heap.size ≤ wq.heap.size + 1; omega) (.slice ua1 un1 uc1)).setCell (p := ⟨wq.heap.size + 1, 2, none⟩) (by show wq.heap.size ≤ wq.heap.size + 1; omega) (.slice ua2 un2 uc2)).setCell (p := ⟨wq.heap.size + 1, 3, none⟩) (by show wq.heap.size ≤ wq.heap.size + 1; omega) (.slice ua3 un3 uc3))
              go_simp
              refine hK.out _ _ hS30 (fun _ => ?_)
              clear hK K
              try simp only [Act.put, List.setIfInBounds_toArray, List.set_cons_zero, List.set_cons_succ]
              refine wpAnyH_ready (rs := [24]) (by kernel_rfl) (by simp) (AllReadyH.cons rfl (fun K hK => ?_) AllReadyH.nil)
              go_simp
              refine hK.out _ _ hS30 (fun _ => ?_)
              clear hK K
              try simp only [Act.put, List.setIfInBounds_toArray, List.set_cons_zero, List.set_cons_succ]
              refine wpAnyH_done (by kernel_rfl) ?_ _
              go_wp2_with fail
              go_meet
              case rel => exact ⟨_, U26, er26, rfl, rfl, by rw [Hcu.out]; exact (blk_set (blk_set (blk_set (blk_set hp26)))).trans rfl, (((((Ho26.out.set htb26.out).set htb26.out).set htb26.out).set htb26.out).mono hS25.out.size), Hge26.out.1, Hge26.out.2, hS30.out⟩
          · try clear ca cb hw1 hi0 hi1 hi2 hi3 c0 c1 c2 c3 hlt hk h0 h3 hN20 hxc hxm
            go_simp
            have hp31 : ((wq.drew.alloc (.cells #[.slice none 0 0, .slice none 0 0, .slice none 0 0, .slice none 0 0] 58))).heap[wq.heap.size]? = some (.cells #[.slice none 0 0, .slice none 0 0, .slice none 0 0, .slice none 0 0] 58 (0, 0)) := blk_new (by rfl) _
            have hS31 := Lib.hid (hS0.out.alloc hS0.out.size (.cells #[.slice none 0 0, .slice none 0 0, .slice none 0 0, .slice none 0 0] 58))
            refine hK.out _ _ hS31 (fun _ => ?_)
            clear hK K
            try simp only [Act.put, List.setIfInBounds_toArray, List.set_cons_zero, List.set_cons_succ]
            refine wpAnyH_ready (rs := [16]) (by kernel_rfl) (by simp) (AllReadyH.cons rfl (fun K hK => ?_) AllReadyH.nil)
            try clear ca cb hw1 hi0 hi1 hi2 hi3 c0 c1 c2 c3 hlt hk h0 h3 hN20 hxc hxm
            go_simp
            have hS32 := Lib.hid (hS31.out.alloc hS31.out.size (.cells #[.int .i64 lv, .int .i64 i, .int .i64 1, .string sa, .int .i64 1, .int .i64 1, .string sb, .int .i64 0, .int .i64 1, .slice none 0 0] 91))
            have hap32 := Lib.hid (HAp.out _ hS31.out)
            have hbp32 := Lib.hid (Below.refl (((wq.drew.alloc (.cells #[.slice none 0 0, .slice none 0 0, .slice none 0 0, .slice none 0 0] 58)).alloc (.cells #[.int .i64 lv, .int .i64 i, .int .i64 1, .string sa, .int .i64 1, .int .i64 1, .string sb, .int .i64 0, .int .i64 1, .slice none 0 0] 91))).heap.size ((wq.drew.alloc (.cells #[.slice none 0 0, .slice none 0 0, .slice none 0 0, .slice none 0 0] 58)).alloc (.cells #[.int .i64 lv, .int .i64 i, .int .i64 1, .string sa, .int .i64 1, .int .i64 1, .string sb, .int .i64 0, .int .i64 1, .slice none 0 0] 91)))
            have hp32 := blk_old hp31 (.cells #[.int .i64 lv, .int .i64 i, .int .i64 1, .string sa, .int .i64 1, .int .i64 1, .string sb, .int .i64 0, .int .i64 1, .slice none 0 0] 91)
            have hsz32 : ((wq.drew.alloc (.cells #[.slice none 0 0, .slice none 0 0, .slice none 0 0, .slice none 0 0] 58))).heap.size = wq.heap.size + 1 := by rw [World.size_alloc]; rfl
            rw [hsz32] at hap32
            clear hsz32
            refine hK.out _ _ hS32 (fun _ => ?_)
            clear hK K
            try simp only [Act.put, List.setIfInBounds_toArray, List.set_cons_zero, List.set_cons_succ]
            refine wpAnyH_take (i := 17) (oi := { dst := some 45, op := Op.build 94 #[(0, Operand.tmp 44)], type := 94, pos := "law.go:65", after := #[{ on := 16, ground := Ground.data }], guard := none }) (v := ?_) rfl (by kernel_rfl) (by kernel_rfl) (by kernel_rfl) (fun _ _ _ h => h) (Or.inl ⟨by rfl, ?hy33⟩) hS32 ?_
            case hy33 => (intro V hSw; (try dsimp only at hSw); clear hSw; go_simp; try with_reducible rfl)
            try simp only [Act.put, List.setIfInBounds_toArray, List.set_cons_zero, List.set_cons_succ]
            refine wpAnyH_ready (rs := [18]) (by kernel_rfl) (by simp) (AllReadyH.cons rfl (fun K hK => ?_) AllReadyH.nil)
            go_simp
            refine (hap32.out _ hbp32.out).mono ?_
            rintro e wv34 hq34
            obtain ⟨U34, er34, rfl, ho34, hg34, he34, hv34⟩ := hq34.out
            have hS34 := Lib.hid (hS32.out.trans (hv34.mono hS32.out.size))
            obtain ⟨ua0, un0, uc0, ua1, un1, uc1, ua2, un2, uc2, ua3, un3, uc3, hcu⟩ := vn_agg ho34.isVn
            have Hcu := Lib.hid hcu
            rw [hcu]
            have Ho34 := Lib.hid ho34
            have Hge34 := Lib.hid (And.intro hg34 he34)
            have hp34 := blk_bels hv34 hp32
            have htb34 := Lib.hid (blk_lt hp32)
            clear hq34 ho34 hg34 he34 hv34 hcu
            refine hK.out _ _ hS34 (fun _ => ?_)
            clear hK K
            try simp only [Act.put, List.setIfInBounds_toArray, List.set_cons_zero, List.set_cons_succ]
            refine wpAnyH_take (i := 19) (oi := { dst := some 27, op := Op.move (Operand.tmp 46), type := 88, pos := "law.go:65", after := #[{ on := 18, ground := Ground.data }], guard := none }) (v := ?_) rfl (by kernel_rfl) (by kernel_rfl) (by kernel_rfl) (fun _ _ _ h => h) (Or.inl ⟨by rfl, ?hy35⟩) hS34 ?_
            case hy35 => (intro V hSw; (try dsimp only at hSw); clear hSw; go_simp; try with_reducible rfl)
            try simp only [Act.put, List.setIfInBounds_toArray, List.set_cons_zero, List.set_cons_succ]
            refine wpAnyH_take (i := 20) (oi := { dst := some 47, op := Op.extract (Operand.tmp 27) 0, type := 58, pos := "law.go:65", after := #[{ on := 19, ground := Ground.data }], guard := none }) (v := ?_) rfl (by kernel_rfl) (by kernel_rfl) (by kernel_rfl) (fun _ _ _ h => h) (Or.inl ⟨by rfl, ?hy36⟩) hS34 ?_
            case hy36 => (intro V hSw; (try dsimp only at hSw); clear hSw; go_simp; try with_reducible rfl)
            try simp only [Act.put, List.setIfInBounds_toArray, List.set_cons_zero, List.set_cons_succ]
            refine wpAnyH_take (i := 21) (oi := { dst := some 48, op := Op.extract (Operand.tmp 27) 1, type := 36, pos := "law.go:65", after := #[{ on := 19, ground := Ground.data }, { on := 23, ground := Ground.gcOnly Departure.lateStores }], guard := none }) (v := ?_) rfl (by kernel_rfl) (by kernel_rfl) (by kernel_rfl) (fun _ _ _ h => h) (Or.inl ⟨by rfl, ?hy37⟩) hS34 ?_
            case hy37 => (intro V hSw; (try dsimp only at hSw); clear hSw; go_simp; try with_reducible rfl)
            try simp only [Act.put, List.setIfInBounds_toArray, List.set_cons_zero, List.set_cons_succ]
            refine wpAnyH_ready (rs := [23]) (by kernel_rfl) (by simp) (AllReadyH.cons rfl (fun K hK => ?_) AllReadyH.nil)
            have hpc := fun j => cell_of_blk hp34 j
            have hpz := fun j => frozen_of_blk hp34 j
            have hS38 := Lib.hid ((((hS34.out.setCell (p := ⟨wq.heap.size, 0, none⟩) (by show wq.heap.size ≤ wq.heap.size; omega) (.slice ua0 un0 uc0)).setCell (p := ⟨wq.heap.size, 1, none⟩) (by show wq.heap.size ≤ wq.heap.size; omega) (.slice ua1 un1 uc1)).setCell (p := ⟨wq.heap.size, 2, none⟩) (by show wq.heap.size ≤ wq.heap.size; omega) (.slice ua2 un2 uc2)).setCell (p := ⟨wq.heap.size, 3, none⟩) (by show wq.heap.size ≤ wq.heap.size; omega) (.slice ua3 un3 uc3))
            go_simp
            refine hK.out _ _ hS38 (fun _ => ?_)
            clear hK K
            try simp only [Act.put, List.setIfInBounds_toArray, List.set_cons_zero, List.set_cons_succ]
            refine wpAnyH_ready (rs := [24]) (by kernel_rfl) (by simp) (AllReadyH.cons rfl (fun K hK => ?_) AllReadyH.nil)
            go_simp
            refine hK.out _ _ hS38 (fun _ => ?_)
            clear hK K
            try simp only [Act.put, List.setIfInBounds_toArray, List.set_cons_zero, List.set_cons_succ]
            refine wpAnyH_done (by kernel_rfl) ?_ _
            go_wp2_with fail
            go_meet
            case rel => exact ⟨_, U34, er34, rfl, rfl, by rw [Hcu.out]; exact (blk_set (blk_set (blk_set (blk_set hp34)))).trans rfl, (((((Ho34.out.set htb34.out).set htb34.out).set htb34.out).set htb34.out).mono hS32.out.size), Hge34.out.1, Hge34.out.2, hS38.out⟩
        case rest =>
          obtain ⟨tb, U, er, rfl, rfl, htb, hown, hgood, her, hbc⟩ := hcut
          have HD2 := Lib.hid (HD.out.below hbc)
          have hi4 : (2 * (k : Int) + 1) + 2 = 2 * ((k + 1 : Nat) : Int) + 1 := by omega
          have Hi4 := Lib.hid hi4
          have hw2 : IntKind.i64.wrap (i + 2) = i + 2 := IntWalk.i64_in _ (by omega)
          have Hhk : Hid (2 * (k + 1) ≤ N + 1) := Lib.hid (by have := Hi.out; omega)
          have Hlt := Lib.hid hlt
          have hvlt : vb < wq.heap.size := blk_lt HD.out.blk
          rcases her with rfl | rfl
          · obtain ⟨ya0, yn0, yc0, ya1, yn1, yc1, ya2, yn2, yc2, ya3, yn3, yc3, hcy⟩ := vn_agg hown.isVn
            rw [hcy] at htb
            have HP := Lib.hid (vwI_put HD2.out hown hvlt hcy (hgood rfl).1 (hgood rfl).2)
            have hvb2 : wc.heap[vb]? = some (.cells #[.slice xa0 xn0 xc0, .slice xa1 xn1 xc1, .slice xa2 xn2 xc2, .slice xa3 xn3 xc3] 58 (0, 0)) := by rw [← Hc.out]; exact HD2.out.blk
            have hpc := fun j => cell_of_blk hvb2 j
            have hpz := fun j => frozen_of_blk hvb2 j
            have y0 := (cell_of_blk htb 0).trans (show _ = some (.slice ya0 yn0 yc0) from rfl)
            have y1 := (cell_of_blk htb 1).trans (show _ = some (.slice ya1 yn1 yc1) from rfl)
            have y2 := (cell_of_blk htb 2).trans (show _ = some (.slice ya2 yn2 yc2) from rfl)
            have y3 := (cell_of_blk htb 3).trans (show _ = some (.slice ya3 yn3 yc3) from rfl)
            clear hown hgood hbc htb hcy c0 c1 c2 c3 ca cb hw1 hi0 hi1 hi2 hi3 hi4 hvlt hvb2 hlt
            go_wp2_with fail
            go_roundw
            case rel => exact ⟨k + 1, Hhk.out, by rw [Hi.out]; first | (rw [Hi4.out]) | go_num, U, HP.out⟩
            case measure => simp [intOf]; have := Hi.out; have := Hlt.out; omega
          · clear hown hgood hbc htb c0 c1 c2 c3 ca cb hw1 hi0 hi1 hi2 hi3 hi4 hvlt hlt
            have HP := Lib.hid (show VwI w vb V (k + 1) wc from ⟨HD2.out.res, HD2.out.blk, HD2.out.vn, HD2.out.ver, HD2.out.sm.mono (Nat.le_succ k), HD2.out.lt, HD2.out.bel⟩)
            go_wp2_with fail
            go_roundw
            case rel => exact ⟨k + 1, Hhk.out, by rw [Hi.out]; first | (rw [Hi4.out]) | go_num, V, HP.out⟩
            case measure => simp [intOf]; have := Hi.out; have := Hlt.out; omega
      · have hd : decide (i < (N : Int)) = false := decide_eq_false hlt
        have HR := Lib.hid hD.res
        have HF0 : Hid ((((((wq.setCell ⟨w.heap.size, 0, none⟩ (.slice xa0 xn0 xc0)).setCell ⟨w.heap.size, 1, none⟩ (.slice xa1 xn1 xc1)).setCell ⟨w.heap.size, 2, none⟩ (.slice xa2 xn2 xc2)).setCell ⟨w.heap.size, 3, none⟩ (.slice xa3 xn3 xc3))).heap[w.heap.size]? = some (.cells #[.slice xa0 xn0 xc0, .slice xa1 xn1 xc1, .slice xa2 xn2 xc2, .slice xa3 xn3 xc3] 58 (0, 0)) ∧ IsVn (((((wq.setCell ⟨w.heap.size, 0, none⟩ (.slice xa0 xn0 xc0)).setCell ⟨w.heap.size, 1, none⟩ (.slice xa1 xn1 xc1)).setCell ⟨w.heap.size, 2, none⟩ (.slice xa2 xn2 xc2)).setCell ⟨w.heap.size, 3, none⟩ (.slice xa3 xn3 xc3))) V ∧ Below w.heap.size w (((((wq.setCell ⟨w.heap.size, 0, none⟩ (.slice xa0 xn0 xc0)).setCell ⟨w.heap.size, 1, none⟩ (.slice xa1 xn1 xc1)).setCell ⟨w.heap.size, 2, none⟩ (.slice xa2 xn2 xc2)).setCell ⟨w.heap.size, 3, none⟩ (.slice xa3 xn3 xc3)))) := Lib.hid ⟨(blk_set (blk_set (blk_set (blk_set HR.out)))).trans rfl, isVn_setv hD.vn HR.out, (((hD.bel.setCell (p := ⟨w.heap.size, 0, none⟩) (Nat.le_refl _) _).setCell (p := ⟨w.heap.size, 1, none⟩) (Nat.le_refl _) _).setCell (p := ⟨w.heap.size, 2, none⟩) (Nat.le_refl _) _).setCell (p := ⟨w.heap.size, 3, none⟩) (Nat.le_refl _) _⟩
        have hpc := fun j => cell_of_blk HR.out j
        have hpz := fun j => frozen_of_blk HR.out j
        clear hD hc hi
        have c0 := (cell_of_blk HV.out 0).trans (show _ = some (.slice xa0 xn0 xc0) from rfl)
        have c1 := (cell_of_blk HV.out 1).trans (show _ = some (.slice xa1 xn1 xc1) from rfl)
        have c2 := (cell_of_blk HV.out 2).trans (show _ = some (.slice xa2 xn2 xc2) from rfl)
        have c3 := (cell_of_blk HV.out 3).trans (show _ = some (.slice xa3 xn3 xc3) from rfl)
        go_wp2_with fail
        refine bodyPost_ret (v := .agg #[.slice xa0 xn0 xc0, .slice xa1 xn1 xc1, .slice xa2 xn2 xc2, .slice xa3 xn3 xc3]) ?_ rfl ?_
        · exact results_cell_row Try.results18 _ _ w.heap.size 58 _ (0, 0) _ rfl HF0.out.1 Try.underlying58 rfl verInfo
        · exact Lib.hid ⟨V, by rw [Hc.out], HF0.out.2.1, HF0.out.2.2⟩
end Go.Proofs.Ytkjfjcigmmooiaa.Tithe
