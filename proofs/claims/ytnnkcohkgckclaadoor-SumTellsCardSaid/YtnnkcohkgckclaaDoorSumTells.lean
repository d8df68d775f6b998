/- The walk of the law SumTells. -/
import Derived.Test.YtnnkcohkgckclaaDoorSumMore
import Derived.Test.YtnnkcohkgckclaaDoorSumLaw
import Derived.OwnWalk
import Derived.Deep.AppendLies
import Derived.Laws.AppendOwnNone
import Derived.Outline
namespace Go.Proofs.YtnnkcohkgckclaaDoor.Tithe
open Go.RowKit
set_option linter.unusedVariables false
theorem u8info : (Tryd.prog.info? 5).map (fun i => (i.zero, i.size, i.bytes)) = some (some (.int .u8 0), 1, 1) := by kernel_rfl
def cellsOfL (l : List Nat) : List Value := l.map fun x => Value.int .u8 (x : Nat)
theorem cellsOfL_get (l : List Nat) (j : Nat) (u : Value) (h : (cellsOfL l)[j]? = some u) : j < l.length ∧ u = .int .u8 (l.getD j 0) := by
  unfold cellsOfL at h
  simp only [List.getElem?_map, Option.map_eq_some_iff] at h
  obtain ⟨x, hx, rfl⟩ := h
  have hj : j < l.length := by
    rcases Nat.lt_or_ge j l.length with h | h
    · exact h
    · rw [List.getElem?_eq_none h] at hx; cases hx
  refine ⟨hj, ?_⟩
  rw [List.getD_eq_getElem?_getD, hx]; rfl
theorem cellsOfL_one (l : List Nat) : ∀ u ∈ cellsOfL l, u.oneCell' = true := by
  intro u hu
  unfold cellsOfL at hu
  simp only [List.mem_map] at hu
  obtain ⟨x, _, rfl⟩ := hu
  rfl
theorem plain_add (b off j : Nat) : (⟨b, off, none⟩ : Addr).add j = ⟨b, off + j, none⟩ := by unfold Addr.add; split <;> simp_all
/-- what the call owns is bytes -/
theorem isBytes_own {w : World} {base : Nat} {v : Value} {l : List Nat} (h : w.ownsRow base 5 1 v l.length (cellsOfL l)) (h8 : ∀ x ∈ l, x < 256) : IsBytes w v l := by
  rcases Nat.eq_zero_or_pos l.length with e | e
  · obtain rfl : l = [] := List.eq_nil_of_length_eq_zero e
    rcases h.2 with ⟨rfl, _⟩ | ⟨g, cap, cur, rfl, _, _, _, hm, _⟩
    · exact ⟨h8, _, _, rfl, by simp, by simp, fun h => absurd rfl h⟩
    · exact ⟨h8, _, _, rfl, by simp, hm, fun h => absurd rfl h⟩
  · obtain ⟨g, cap, rfl, hb, hlt⟩ := h.form e
    have hc := h.cells (g := g) rfl
    obtain ⟨_, h2⟩ := h
    have hcm : l.length ≤ cap ∧ cap ≤ maxLen := by
      rcases h2 with ⟨h, _⟩ | ⟨g', cap', cur, h, _, _, hn, hm, _⟩
      · cases h
      · injection h with _ _ h; subst h; exact ⟨hn, hm⟩
    refine ⟨h8, _, _, rfl, hcm.1, hcm.2, fun _ => ⟨_, _, rfl, fun i hi => ?_⟩⟩
    have := hc i (.int .u8 (l.getD i 0)) (by unfold cellsOfL; simp [List.getD_eq_getElem?_getD, hi])
    rw [plain_add] at this
    exact this
theorem run_append_nil (w : World) (c : Nat) : (Builtin.append_ #[22, 22] 22 #[.slice none 0 0, .slice none 0 c]).run Tryd.prog w = .ok (.slice none 0 0) w := by
  obtain ⟨i0, hi0, hz0, hz1, hz2⟩ := info_parts u8info
  simp [Builtin.append_, run_underlying Tryd.underlying22, sizeOf, typeInfo, hi0, Builtin.lenOf, Builtin.firstCells]
theorem copy_any (v : Value) (l : List Nat) (w : World) (hb : IsBytes w v l) (hlen : l.length ≤ 140737488355328) :
    Calls Tryd.prog 14 #[v] w fun e w' => ∃ v', e = .returned v' ∧ w'.ownsRow w.heap.size 5 1 v' l.length (cellsOfL l) ∧ Below w.heap.size w w' := by
  obtain ⟨i0, hi0, hz0, hz1, hz2⟩ := info_parts u8info
  obtain ⟨h8, a, c, rfl, h1, h2, h3⟩ := hb
  cases a with
  | none =>
    obtain rfl : l = [] := by
      by_cases he : l = []
      · exact he
      · obtain ⟨b, off, ha, _⟩ := h3 he; cases ha
    have hrun := fun W => run_append_nil W c
    go_enter Tryd.func14, Tryd.ntmps14
    go_wp2
    go_ret
    exact ⟨_, rfl, World.ownsRow_nil w _ _ _, Below.refl _ _⟩
  | some ad =>
    have hn : ∀ j u, (cellsOfL l)[j]? = some u → w.cell? (ad.add j) = some u := by
      intro j u hu
      obtain ⟨hj, rfl⟩ := cellsOfL_get l j u hu
      obtain ⟨b, off, ha, hc⟩ := h3 (by rintro rfl; simp at hj)
      injection ha with ha
      subst ha
      rw [plain_add]; exact hc j hj
    go_enter Tryd.func14, Tryd.ntmps14
    go_wp2_with (first | (at_builtin; (refine wpList_append_own _ rfl (.tmp 4) (.tmp 5) 22 rfl w.heap.size 5 i0 (.int .u8 0) 1 1 Tryd.underlying22 hi0 hz0 hz1 hz2 rfl (by decide) (.slice none 0 0) 0 [] rfl (World.ownsRow_nil w _ _ _) ad l.length c (cellsOfL l) rfl (by simp [cellsOfL]) hn (cellsOfL_one l) (by simp only [maxLen]; omega) (by omega) (Nat.le_refl _) ?_); intro v' w' hown hg hnil))
    go_ret
    refine ⟨v', rfl, by simpa using hown, (Below.refl _ _).grown hg (Nat.le_refl _) (fun k hk => by cases hk)⟩
theorem xcancel {a b c : Nat} (h : a ^^^ c = b ^^^ c) : a = b := by
  have := congrArg (· ^^^ c) h
  simpa only [Nat.xor_assoc, Nat.xor_self, Nat.xor_zero] using this
theorem xcancel' {a b c : Nat} (h : c ^^^ a = c ^^^ b) : a = b := xcancel (c := c) (by rw [Nat.xor_comm a, Nat.xor_comm b]; exact h)
theorem xzero {a b : Nat} (h : a ^^^ b = 0) : a = b := xcancel (c := b) (by rw [h, Nat.xor_self])
theorem bits8_inj0 {x : Nat} (h : x < 4294967296) (k : bitStep x = 0) : x = 0 := by
  unfold bitStep at k
  split at k
  · have e : x / 2 = 2197175160 := by
      have := congrArg (· ^^^ 2197175160) k
      simp only [Nat.xor_assoc, Nat.xor_self, Nat.xor_zero, Nat.zero_xor] at this
      exact this
    omega
  · omega
theorem bitStep_inj {a b : Nat} (ha : a < 4294967296) (hb : b < 4294967296) (h : bitStep a = bitStep b) : a = b := by
  have e : bitStep (a ^^^ b) = 0 := by rw [bitStep_xor, h, Nat.xor_self]
  have := bits8_inj0 (xor_lt32 ha hb) e
  exact xzero this
theorem bits8_inj (k : Nat) : ∀ {a b : Nat}, a < 4294967296 → b < 4294967296 → bits8 k a = bits8 k b → a = b := by
  induction k with
  | zero => intro a b _ _ h; exact h
  | succ k ih => intro a b ha hb h; exact ih ha hb (bitStep_inj (bits8_lt k ha) (bits8_lt k hb) h)
theorem refRun_inj {l : List Nat} : ∀ {a b : Nat}, a < 4294967296 → b < 4294967296 → (∀ x ∈ l, x < 256) → refRun a l = refRun b l → a = b := by
  induction l with
  | nil => intro a b _ _ _ h; exact h
  | cons x l ih =>
    intro a b ha hb hx h
    have x8 := hx x (by simp)
    have := ih (bits8_lt 8 (xor_lt32 ha (by omega))) (bits8_lt 8 (xor_lt32 hb (by omega))) (fun y hy => hx y (by simp [hy])) h
    have := bits8_inj 8 (xor_lt32 ha (by omega)) (xor_lt32 hb (by omega)) this
    exact xcancel this
theorem tells : ∀ (l : List Nat) (c i y : Nat), c < 4294967296 → (∀ x ∈ l, x < 256) → i < l.length → y < 256 → l.getD i 0 ≠ y → refRun c l ≠ refRun c (l.set i y)
  | [], _, _, _, _, _, h, _, _ => by simp at h
  | x :: l, c, 0, y, hc, h8, _, hy, hne => by
    intro h
    have x8 := h8 x (by simp)
    simp only [refRun, List.set_cons_zero, List.foldl_cons] at h
    have := refRun_inj (l := l) (bits8_lt 8 (xor_lt32 hc (by omega))) (bits8_lt 8 (xor_lt32 hc (by omega))) (fun y hy => h8 y (by simp [hy])) h
    have := bits8_inj 8 (xor_lt32 hc (by omega)) (xor_lt32 hc (by omega)) this
    have := xcancel' this
    simp at hne
    exact hne this
  | x :: l, c, i + 1, y, hc, h8, hi, hy, hne => by
    have x8 := h8 x (by simp)
    exact tells l _ i y (bits8_lt 8 (xor_lt32 hc (by omega))) (fun y hy => h8 y (by simp [hy])) (by simpa using hi) hy (by simpa using hne)
theorem tells_more (l : List Nat) (i y : Nat) (h8 : ∀ x ∈ l, x < 256) (hi : i < l.length) (hy : y < 256) (hne : l.getD i 0 ≠ y) : moreOf 0 l ≠ moreOf 0 (l.set i y) := by
  have h1 := tells l 4294967295 i y (by omega) h8 hi hy hne
  have h8' : ∀ x ∈ l.set i y, x < 256 := fun x hx => by
    rcases List.mem_or_eq_of_mem_set hx with h | h
    · exact h8 x h
    · omega
  have a := refRun_lt (c := 4294967295) (by omega) h8
  have b := refRun_lt (c := 4294967295) (by omega) h8'
  unfold moreOf
  rw [runBytes_eq, runBytes_eq]
  simp only [Nat.sub_zero]
  omega
theorem cells_set (l : List Nat) (i y : Nat) : (cellsOfL l).set i (.int .u8 (y : Nat)) = cellsOfL (l.set i y) := by
  unfold cellsOfL; rw [List.map_set]
set_option maxHeartbeats 400000 in
theorem sumTells_long (v : Value) (l : List Nat) (a1 a2 : Int) (w : World) (hb : IsBytes w v l) (ht : TabOk w) (h : 5000 < l.length ∨ a1 < 0 ∨ (l.length : Int) ≤ a1 ∨ a2 = 0) :
    Calls Tryd.prog 5 #[v, .int .i64 a1, .int .u8 a2] w fun e w' => e = .returned (.bool true) ∧ Below w.heap.size w w' := by
  have ht' := Lib.hid ht
  obtain ⟨h8, a, c, rfl, h1, h2, h3⟩ := hb
  clear h3 ht
  unfold maxLen at h2
  have key : ∀ (q1 : decide ((5000 : Int) < (l.length : Int)) = true ∨ (decide ((5000 : Int) < (l.length : Int)) = false ∧ (decide (a1 < 0) = true ∨ (decide (a1 < 0) = false ∧ (decide ((l.length : Int) ≤ a1) = true ∨ (decide ((l.length : Int) ≤ a1) = false ∧ (a2 == 0) = true)))))), Calls Tryd.prog 5 #[.slice a l.length c, .int .i64 a1, .int .u8 a2] w fun e w' => e = .returned (.bool true) ∧ Below w.heap.size w w' := by
    intro q1
    clear h
    rcases q1 with q1 | ⟨q1, q2 | ⟨q2, q3 | ⟨q3, q4⟩⟩⟩
    all_goals
      go_enter Tryd.func5, Tryd.ntmps5
      go_wp2_with (go_at_call 10; refine (awake_any _ ht'.out).mono ?_; rintro e w' ⟨rfl, hw⟩)
      go_ret
      exact ⟨rfl, hw⟩
  refine key ?_
  simp only [decide_eq_true_eq, decide_eq_false_iff_not, beq_iff_eq]
  omega
set_option maxHeartbeats 400000 in
theorem sumTells_short (v : Value) (l : List Nat) (k y : Nat) (w : World) (hb : IsBytes w v l) (ht : TabOk w) (h5 : l.length ≤ 5000) (hk : k < l.length) (hy : y < 256) (hy0 : y ≠ 0) :
    Calls Tryd.prog 5 #[v, .int .i64 k, .int .u8 y] w fun e w' => e = .returned (.bool true) ∧ Below w.heap.size w w' := by
  have ht' := Lib.hid ht
  have hb' := Lib.hid hb
  obtain ⟨h8, a, c, rfl, h1, h2, h3⟩ := hb
  clear h3 ht
  unfold maxLen at h2
  have q1 : decide ((5000 : Int) < (l.length : Int)) = false := by simp; omega
  have q2 : decide ((k : Int) < 0) = false := by simp
  have q3 : decide ((l.length : Int) ≤ (k : Int)) = false := by simp; omega
  have q4 : ((y : Int) == 0) = false := by simp; omega
  have c1 := Lib.hid (copy_any _ l w hb'.out (by omega))
  go_enter Tryd.func5, Tryd.ntmps5
  go_wp2_with fail
  refine c1.out.mono ?_
  rintro e W ⟨v', rfl, hown, hbel⟩
  obtain ⟨g, cap, hv, hg, hlt⟩ := hown.form (by omega)
  rw [hv] at hown ⊢
  clear hv c1
  obtain ⟨x, ex⟩ : ∃ x, l.getD k 0 = x := ⟨_, rfl⟩
  have hcell : W.cell? ⟨g, k, none⟩ = some (.int .u8 (x : Nat)) := by
    rw [hown.cellAt k (by omega), cellsOfL, List.getElem?_map, List.getElem?_eq_getElem hk, ← ex, List.getD_eq_getElem?_getD, List.getElem?_eq_getElem hk]; rfl
  have hfr : W.frozen? ⟨g, k, none⟩ = false := hown.frozenAt k
  have hx8 : x < 256 := by rw [← ex, List.getD_eq_getElem?_getD, List.getElem?_eq_getElem hk]; exact h8 _ (List.getElem_mem _)
  have hz8 : x ^^^ y < 256 := by
    have : x ^^^ y < 2 ^ 8 := Nat.xor_lt_two_pow hx8 hy
    exact this
  have hl' : ∀ u ∈ l.set k (x ^^^ y), u < 256 := fun u hu => by
    rcases List.mem_or_eq_of_mem_set hu with h | h
    · exact h8 u h
    · omega
  have hset := hown.stored k (.int .u8 ((x ^^^ y : Nat) : Int))
  rw [cells_set] at hset
  have hbel2 : Below w.heap.size w (W.setCell ⟨g, k, none⟩ (.int .u8 ((x ^^^ y : Nat) : Int))) := hbel.setCell hg _
  have hb2 := Lib.hid (isBytes_own (l := l.set k (x ^^^ y)) (by rw [List.length_set]; exact hset.1) hl')
  have hE : bits BinOp.xor IntKind.u8 (x : Int) (y : Int) = ((x ^^^ y : Nat) : Int) := u8_xor_nat _ _ hx8 hy
  have hne := tells_more l k (x ^^^ y) h8 hk hz8 (by rw [ex]; intro e; apply hy0; exact xcancel' (c := x) (by rw [← e, Nat.xor_zero]))
  obtain ⟨s, es⟩ : ∃ s, s = moreOf 0 l := ⟨_, rfl⟩
  obtain ⟨s', es'⟩ : ∃ s', s' = moreOf 0 (l.set k (x ^^^ y)) := ⟨_, rfl⟩
  rw [← es, ← es'] at hne
  have hne' : ((s : Int) != (s' : Int)) = true := by simp; omega
  have htb := Lib.hid (ht'.out.below hbel2)
  have hbb := Lib.hid (hb'.out.below hbel2)
  have Hb2 := Lib.hid hbel2
  have hsz := hbel2.size
  clear hbel2 hown hset hl' ex hne hbel
  generalize x ^^^ y = z at *
  have c2 : Hid (Calls Tryd.prog 11 #[.slice a l.length c] (W.setCell ⟨g, k, none⟩ (.int .u8 (z : Int))) fun e w' => e = .returned (.int .u32 s) ∧ W.setCell ⟨g, k, none⟩ (.int .u8 (z : Int)) = w') := by
    rw [es]; exact of_any _ l _ hbb.out htb.out
  have c3 : Hid (Calls Tryd.prog 11 #[.slice (some ⟨g, 0, none⟩) l.length cap] (W.setCell ⟨g, k, none⟩ (.int .u8 (z : Int))) fun e w' => e = .returned (.int .u32 s') ∧ W.setCell ⟨g, k, none⟩ (.int .u8 (z : Int)) = w') := by
    have h := of_any _ _ _ hb2.out htb.out
    rw [es']; exact h
  clear es es'
  go_wp2_with (first | (go_at_call 10; refine (awake_any _ htb.out).mono ?_; rintro e w' ⟨rfl, hw⟩) | ((with_reducible refine c2.out.mono ?_); rintro e w' ⟨rfl, rfl⟩) | ((with_reducible refine c3.out.mono ?_); rintro e w' ⟨rfl, rfl⟩))
  go_ret
  exact ⟨rfl, Hb2.out.trans (hw.mono hsz)⟩
theorem sumTells_walk (v : Value) (l : List Nat) (a1 a2 : Int) (w : World) (hb : IsBytes w v l) (w1 : (Lit.int .i64 a1).wf = true) (w2 : (Lit.int .u8 a2).wf = true) (ht : TabOk w) :
    Calls Tryd.prog 5 #[v, .int .i64 a1, .int .u8 a2] w fun e w' => e = .returned (.bool true) ∧ Below w.heap.size w w' := by
  have b2 := bounds_u8 w2
  by_cases h : 5000 < l.length ∨ a1 < 0 ∨ (l.length : Int) ≤ a1 ∨ a2 = 0
  · exact sumTells_long v l a1 a2 w hb ht h
  · obtain ⟨k, rfl⟩ := Int.eq_ofNat_of_zero_le (show 0 ≤ a1 by omega)
    obtain ⟨y, rfl⟩ := Int.eq_ofNat_of_zero_le (show 0 ≤ a2 by omega)
    exact sumTells_short v l k y w hb ht (by omega) (by omega) (by omega) (by omega)
end Go.Proofs.YtnnkcohkgckclaaDoor.Tithe
