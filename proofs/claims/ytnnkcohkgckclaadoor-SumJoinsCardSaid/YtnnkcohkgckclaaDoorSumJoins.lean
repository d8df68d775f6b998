/- The walk of the law SumJoins. -/
import Derived.Test.YtnnkcohkgckclaaDoorSumTells
import Derived.Test.YtnnkcohkgckclaaDoorSumMoreLaw
import Derived.Laws.MakeOwn
import Derived.BigRegion
import Derived.ChangeAlike
import Derived.WalkLawsBesides
import Derived.StillTailTactics
namespace Go.Proofs.YtnnkcohkgckclaaDoor.Tithe
open Go.RowKit Go.Sort
set_option linter.unusedVariables false
def xorL (l m : List Nat) : List Nat := List.zipWith (· ^^^ ·) l m
theorem refRun_xor : ∀ (l m : List Nat) (a b : Nat), l.length = m.length → refRun (a ^^^ b) (xorL l m) = refRun a l ^^^ refRun b m
  | [], [], a, b, _ => rfl
  | x :: l, y :: m, a, b, h => by
    have ih := refRun_xor l m (bits8 8 (a ^^^ x)) (bits8 8 (b ^^^ y)) (by simpa using h)
    simp only [refRun, xorL, List.zipWith_cons_cons, List.foldl_cons]
    rw [show a ^^^ b ^^^ (x ^^^ y) = (a ^^^ x) ^^^ (b ^^^ y) from by ac_rfl, bits8_xor]
    exact ih
theorem moreOf_xor (l : List Nat) (h8 : ∀ x ∈ l, x < 256) : moreOf 0 l = 4294967295 ^^^ refRun 4294967295 l := by
  unfold moreOf
  rw [runBytes_eq, xorNot]
  exact refRun_lt (by omega) h8
theorem xorL_length (l m : List Nat) (h : l.length = m.length) : (xorL l m).length = l.length := by simp [xorL, h]
theorem joins (l m n : List Nat) (h1 : l.length = m.length) (h2 : l.length = n.length) (hl : ∀ x ∈ l, x < 256) (hm : ∀ x ∈ m, x < 256) (hn : ∀ x ∈ n, x < 256) (hx : ∀ x ∈ xorL (xorL l m) n, x < 256) :
    moreOf 0 (xorL (xorL l m) n) = moreOf 0 l ^^^ moreOf 0 m ^^^ moreOf 0 n := by
  rw [moreOf_xor _ hx, moreOf_xor _ hl, moreOf_xor _ hm, moreOf_xor _ hn]
  have e1 := refRun_xor (xorL l m) n (4294967295 ^^^ 4294967295) 4294967295 (by rw [xorL_length _ _ h1]; exact h2)
  have e2 := refRun_xor l m 4294967295 4294967295 h1
  rw [e2] at e1
  rw [show (4294967295 ^^^ 4294967295 ^^^ 4294967295 : Nat) = 4294967295 from by decide] at e1
  rw [e1]
  generalize refRun 4294967295 l = a
  generalize refRun 4294967295 m = b
  generalize refRun 4294967295 n = c
  have e3 : (4294967295 ^^^ 4294967295 : Nat) = 0 := by decide
  rw [show 4294967295 ^^^ a ^^^ (4294967295 ^^^ b) ^^^ (4294967295 ^^^ c) = (4294967295 ^^^ 4294967295) ^^^ (4294967295 ^^^ (a ^^^ b ^^^ c)) from by ac_rfl, e3, Nat.zero_xor]
theorem slice_to (w : World) (a : Option Addr) (n c j : Nat) (h : j ≤ c) : (Instr.slice 22 (.slice a n c) none (some (.int .i64 (j : Int))) none).run Tryd.prog w = .ok (.slice a j c) w := by
  obtain ⟨i0, hi0, hz0, hz1, hz2⟩ := info_parts u8info
  cases a <;> simp [go_sem, Instr.slice, h]
theorem min3 (w : World) (a b c k : Nat) (h1 : k ≤ a) (h2 : k ≤ b) (h3 : k ≤ c) (h : k = a ∨ k = b ∨ k = c) : (Builtin.min_ #[3, 3, 3] 3 #[.int .i64 (a : Int), .int .i64 (b : Int), .int .i64 (c : Int)]).run Tryd.prog w = .ok (.int .i64 (k : Int)) w := by
  rw [run_min_int3]
  have : (if (c : Int) < (if (b : Int) < (a : Int) then (b : Int) else (a : Int)) then (c : Int) else (if (b : Int) < (a : Int) then (b : Int) else (a : Int))) = (k : Int) := by
    repeat' split
    all_goals omega
  rw [this]
theorem min3_exists (a b c : Nat) : ∃ k : Nat, k ≤ a ∧ k ≤ b ∧ k ≤ c ∧ (k = a ∨ k = b ∨ k = c) := ⟨min a (min b c), by omega, by omega, by omega, by omega⟩
theorem run_make_u8 (w : World) (k : Nat) (hk : k ≤ 3000) : ∃ Z, Z = cellsOfL (List.replicate k 0) ∧ (Instr.makeSlice 22 (.int .i64 (k : Int)) (.int .i64 (k : Int))).run Tryd.prog w = .ok (.slice (some ⟨w.heap.size, 0, none⟩) k k) (w.alloc (.cells Z.toArray 5)) := by
  obtain ⟨i0, hi0, hz0, hz1, hz2⟩ := info_parts u8info
  refine ⟨_, rfl, ?_⟩
  have := run_make (P := Tryd.prog) w _ _ i0 _ Tryd.underlying22 hi0 hz0 .i64 .i64 (k : Int) (k : Int) (by omega) (by omega) (by rw [hz2]; omega) (by omega)
  rw [this]
  simp only [Int.toNat_natCast, hz1, Nat.mul_one]
  congr 3
  apply Array.ext'
  unfold madeCells cellsOfL
  simp
  apply List.ext_getElem
  · simp
  · intro i h1 h2
    simp [Value.cells, Nat.mod_one]
theorem ownsRow_new (w : World) (Z : List Value) (t : TypeId) (k : Nat) (hk : k ≤ maxLen) (hz : Z.length = k) : (w.alloc (.cells Z.toArray t)).ownsRow w.heap.size t 1 (.slice (some ⟨w.heap.size, 0, none⟩) k k) k Z := by
  refine ⟨by omega, .inr ⟨w.heap.size, k, Z.toArray, rfl, Nat.le_refl _, ?_, Nat.le_refl _, hk, by simp; omega, ?_⟩⟩
  · show (w.heap.push _)[w.heap.size]? = _
    simp
  · simp [← hz]
/-- what stands in the new bytes behind j rounds -/
def part (T : List Nat) (k j : Nat) : List Nat := T.take j ++ List.replicate (k - j) 0
theorem part_zero (T : List Nat) (k : Nat) : part T k 0 = List.replicate k 0 := by simp [part]
theorem part_full (T : List Nat) (k : Nat) (h : T.length = k) : part T k k = T := by simp [part, ← h]
theorem part_length (T : List Nat) (k j : Nat) (h : T.length = k) (hj : j ≤ k) : (part T k j).length = k := by simp [part]; omega
theorem part_step (T : List Nat) (k j : Nat) (h : T.length = k) (hj : j < k) : (part T k j).set j (T.getD j 0) = part T k (j + 1) := by
  apply List.ext_getElem
  · simp [part]; omega
  · intro i h1 h2
    simp only [part, List.getElem_set, List.getElem_append, List.getElem_take, List.getElem_replicate, List.length_take]
    have h3 : i < k := by simp [part] at h2; omega
    by_cases e : j = i
    · subst e
      rw [if_pos rfl, dif_pos (by omega)]
      simp [List.getD_eq_getElem?_getD, h, hj]
    · rw [if_neg e]
      by_cases q : i < j
      · rw [dif_pos (by omega), dif_pos (by omega)]
      · rw [dif_neg (by omega), dif_neg (by omega)]
theorem getD_lt {l : List Nat} (h : ∀ x ∈ l, x < 256) (i : Nat) : l.getD i 0 < 256 := by
  rw [List.getD_eq_getElem?_getD]
  rcases Nat.lt_or_ge i l.length with q | q
  · rw [List.getElem?_eq_getElem q]; exact h _ (List.getElem_mem _)
  · rw [List.getElem?_eq_none q]; decide
set_option maxHeartbeats 1000000 in
theorem sumJoins_some (b1 o1 b2 o2 b3 o3 : Nat) (c1 c2 c3 : Nat) (l m n : List Nat) (k : Nat) (w : World) (hb1 : IsBytes w (.slice (some ⟨b1, o1, none⟩) l.length c1) l) (hb2 : IsBytes w (.slice (some ⟨b2, o2, none⟩) m.length c2) m) (hb3 : IsBytes w (.slice (some ⟨b3, o3, none⟩) n.length c3) n) (ht : TabOk w)
    (k1 : k ≤ l.length) (k2 : k ≤ m.length) (k3 : k ≤ n.length) (hk : k = l.length ∨ k = m.length ∨ k = n.length) (hk3 : k ≤ 3000)  :
    Calls Tryd.prog 6 #[.slice (some ⟨b1, o1, none⟩) l.length c1, .slice (some ⟨b2, o2, none⟩) m.length c2, .slice (some ⟨b3, o3, none⟩) n.length c3] w fun e w' => e = .returned (.bool true) ∧ Below w.heap.size w w' := by
  have ht' := Lib.hid ht
  have hb1' := Lib.hid hb1
  have hb2' := Lib.hid hb2
  have hb3' := Lib.hid hb3
  obtain ⟨h8, _, _, e, g1, g2, -⟩ := hb1
  injection e with e1 e2 e3
  subst e3
  clear e1 e2
  obtain ⟨h8', _, _, e, g1', g2', -⟩ := hb2
  injection e with e1 e2 e3
  subst e3
  clear e1 e2
  obtain ⟨h8'', _, _, e, g1'', g2'', -⟩ := hb3
  injection e with e1 e2 e3
  subst e3
  clear e1 e2 ht
  have hm := Lib.hid (fun W => min3 W l.length m.length n.length k k1 k2 k3 hk)
  have hm' := hm.out
  obtain ⟨Z, eZ, hmk⟩ := run_make_u8 w k hk3
  have hown0 := ownsRow_new w Z 5 k (by unfold maxLen; omega) (by rw [eZ]; simp [cellsOfL])
  have hbel0 : Below w.heap.size w (w.alloc (.cells Z.toArray 5)) := (Below.refl _ _).alloc (Nat.le_refl _) _
  unfold maxLen at g2 g2' g2''
  have q1 : (k : Int) ≤ 3000 := by omega
  have q2 : (k : Int) ≤ (c1 : Int) := by omega
  have q3 : (k : Int) ≤ (c2 : Int) := by omega
  have q4 : (k : Int) ≤ (c3 : Int) := by omega
  have q5 : (k : Int) ≤ (l.length : Int) := by omega
  have q6 : (k : Int) ≤ (m.length : Int) := by omega
  have q7 : (k : Int) ≤ (n.length : Int) := by omega
  obtain ⟨T, eT⟩ : ∃ T, T = xorL (xorL (l.take k) (m.take k)) (n.take k) := ⟨_, rfl⟩
  have hTl : T.length = k := by rw [eT]; simp [xorL]; omega
  have hT8 : ∀ x ∈ T, x < 256 := by
    intro x hx
    rw [eT] at hx
    obtain ⟨i, hi, rfl⟩ := List.getElem_of_mem hx
    have hi' : i < k := by have := hi; simp [xorL] at this; omega
    simp only [xorL, List.getElem_zipWith, List.getElem_take]
    have a1 := h8 (l[i]'(by omega)) (List.getElem_mem _)
    have a2 := h8' (m[i]'(by omega)) (List.getElem_mem _)
    have a3 := h8'' (n[i]'(by omega)) (List.getElem_mem _)
    exact Nat.xor_lt_two_pow (n := 8) (Nat.xor_lt_two_pow a1 a2) a3
  have hTj : ∀ j, j < k → T.getD j 0 = l.getD j 0 ^^^ m.getD j 0 ^^^ n.getD j 0 := by
    intro j hj
    rw [eT]
    have b1 : j < l.length := by omega
    have b2 : j < m.length := by omega
    have b3 : j < n.length := by omega
    simp [xorL, List.getD_eq_getElem?_getD, hj, b1, b2, b3, List.getElem?_zipWith]
  have hZ : cellsOfL (part T k 0) = Z := by rw [eZ, part_zero]
  have hjoin : moreOf 0 T = moreOf 0 (l.take k) ^^^ moreOf 0 (m.take k) ^^^ moreOf 0 (n.take k) := by
    rw [eT]
    rw [eT] at hT8
    exact joins _ _ _ (by simp; omega) (by simp; omega) (fun x hx => h8 x (List.mem_of_mem_take hx)) (fun x hx => h8' x (List.mem_of_mem_take hx)) (fun x hx => h8'' x (List.mem_of_mem_take hx)) hT8
  have HT := Lib.hid (And.intro hTl (And.intro hT8 (And.intro hTj hjoin)))
  have Hown : Hid ((w.alloc (.cells Z.toArray 5)).ownsRow w.heap.size 5 1 (.slice (some ⟨w.heap.size, 0, none⟩) k k) k (cellsOfL (part T k 0))) := by rw [hZ]; exact hown0
  have Hbel := Lib.hid hbel0
  have hsz : w.heap.size < (w.alloc (.cells Z.toArray 5)).heap.size := by simp
  clear eT hTl hT8 hTj hjoin eZ hZ hown0 hbel0 hk
  go_enter Tryd.func6, Tryd.ntmps6
  go_wp2
  go_loopw [9, 24] (fun _ i wr => ∃ j : Nat, j ≤ k ∧ i = .int .i64 j ∧ wr.ownsRow w.heap.size 5 1 (.slice (some ⟨w.heap.size, 0, none⟩) k k) k (cellsOfL (part T k j)) ∧ Below w.heap.size w wr ∧ w.heap.size < wr.heap.size) (fun _ i _ => k - (intOf i).toNat)
  case atStart => exact ⟨0, Nat.zero_le _, rfl, Hown.out, Hbel.out, hsz⟩
  case round =>
    obtain ⟨j, hj, rfl, hown, hbel, hsz2⟩ := hrel
    by_cases hlt : j < k
    · obtain ⟨hTl, hT8, hTj, -⟩ := HT.out
      have hstep := part_step T k j hTl hlt
      have hx8 := getD_lt h8 j
      have hy8 := getD_lt h8' j
      have hz8 := getD_lt h8'' j
      have hTe := hTj j hlt
      have r1 : wr.cell? ⟨b1, o1 + j, none⟩ = some (.int .u8 (l.getD j 0)) := by
        obtain ⟨-, _, _, e, -, -, hc⟩ := hb1'.out.below hbel
        obtain ⟨b, off, ea, hc⟩ := hc (by rintro rfl; simp at k1; omega)
        injection e with e1 e2 e3
        rw [← e1] at ea
        injection ea with ea
        injection ea with ea eb
        subst ea eb
        exact hc j (by omega)
      have r2 : wr.cell? ⟨b2, o2 + j, none⟩ = some (.int .u8 (m.getD j 0)) := by
        obtain ⟨-, _, _, e, -, -, hc⟩ := hb2'.out.below hbel
        obtain ⟨b, off, ea, hc⟩ := hc (by rintro rfl; simp at k2; omega)
        injection e with e1 e2 e3
        rw [← e1] at ea
        injection ea with ea
        injection ea with ea eb
        subst ea eb
        exact hc j (by omega)
      have r3 : wr.cell? ⟨b3, o3 + j, none⟩ = some (.int .u8 (n.getD j 0)) := by
        obtain ⟨-, _, _, e, -, -, hc⟩ := hb3'.out.below hbel
        obtain ⟨b, off, ea, hc⟩ := hc (by rintro rfl; simp at k3; omega)
        injection e with e1 e2 e3
        rw [← e1] at ea
        injection ea with ea
        injection ea with ea eb
        subst ea eb
        exact hc j (by omega)
      obtain ⟨u, r4⟩ : ∃ u, wr.cell? ⟨w.heap.size, j, none⟩ = some u := by
        rw [hown.cellAt j (by omega)]
        exact ⟨_, List.getElem?_eq_getElem (by simp [cellsOfL, part]; omega)⟩
      have r5 : wr.frozen? ⟨w.heap.size, j, none⟩ = false := hown.frozenAt j
      have hst := (hown.stored j (.int .u8 ((T.getD j 0 : Nat) : Int))).1
      rw [cells_set, hstep] at hst
      have hbel3 := Lib.hid (hbel.setCell (p := ⟨w.heap.size, j, none⟩) (Nat.le_refl _) (.int .u8 ((T.getD j 0 : Nat) : Int)))
      have Hst := Lib.hid hst
      rw [hTe] at Hst hbel3
      generalize l.getD j 0 = x at *
      generalize m.getD j 0 = y at *
      generalize n.getD j 0 = z at *
      have hxy : x ^^^ y < 256 := Nat.xor_lt_two_pow (n := 8) hx8 hy8
      have E1 : bits BinOp.xor IntKind.u8 (x : Int) (y : Int) = ((x ^^^ y : Nat) : Int) := u8_xor_nat _ _ hx8 hy8
      have E2 : bits BinOp.xor IntKind.u8 ((x ^^^ y : Nat) : Int) (z : Int) = ((x ^^^ y ^^^ z : Nat) : Int) := u8_xor_nat _ _ hxy hz8
      have i1 : (j : Int) < (l.length : Int) := by omega
      have i2 : (j : Int) < (m.length : Int) := by omega
      have i3 : (j : Int) < (n.length : Int) := by omega
      have i4 : (j : Int) < (k : Int) := by omega
      clear hstep hTe hst hown hbel hTj hTl hT8
      generalize x ^^^ y ^^^ z = t at *
      generalize x ^^^ y = xy at *
      go_wp2
      go_still_tail 17, (by kernel_rfl)
      go_wp2
      go_roundw
      case rel => exact ⟨j + 1, by omega, by go_num, Hst.out, hbel3.out.drew, by simp [World.setCell]; exact hsz2⟩
      case measure => simp [intOf]; omega
    · obtain rfl : j = k := by omega
      obtain ⟨hTl, hT8, -, hjoin⟩ := HT.out
      rw [part_full T j hTl] at hown
      have ht2 := Lib.hid (ht'.out.below hbel)
      have hbT : IsBytes wr (.slice (some ⟨w.heap.size, 0, none⟩) j j) T := by
        have := isBytes_own (v := .slice (some ⟨w.heap.size, 0, none⟩) j j) (l := T) (by rw [hTl]; exact hown) hT8
        exact this
      have HbT := Lib.hid hbT
      have hbl := Lib.hid ((hb1'.out.take j k1).below hbel)
      have hbm := Lib.hid ((hb2'.out.take j k2).below hbel)
      have hbn := Lib.hid ((hb3'.out.take j k3).below hbel)
      have Hbel2 := Lib.hid hbel
      have ll : ∀ v q, IsBytes wr v q → moreOf 0 q < 4294967296 := fun v q h => moreOf_lt (by omega) h.1
      obtain ⟨s, es, hs⟩ : ∃ s, s = moreOf 0 T ∧ s < 4294967296 := ⟨_, rfl, ll _ _ hbT⟩
      obtain ⟨s1, es1, hs1⟩ : ∃ s, s = moreOf 0 (l.take j) ∧ s < 4294967296 := ⟨_, rfl, ll _ _ hbl.out⟩
      obtain ⟨s2, es2, hs2⟩ : ∃ s, s = moreOf 0 (m.take j) ∧ s < 4294967296 := ⟨_, rfl, ll _ _ hbm.out⟩
      obtain ⟨s3, es3, hs3⟩ : ∃ s, s = moreOf 0 (n.take j) ∧ s < 4294967296 := ⟨_, rfl, ll _ _ hbn.out⟩
      rw [← es, ← es1, ← es2, ← es3] at hjoin
      have f0 : Hid (∀ d os, Calls Tryd.prog 11 #[.slice (some ⟨w.heap.size, 0, none⟩) j j] (grow (redrawn wr d) os) fun e w'' => e = .returned (.int .u32 s) ∧ ∃ p : Regrown, w'' = grow (redrawn wr p.d) p.os) := by
        intro d os; rw [es]; exact Calls.regrown_of (of_b _ _ _ (HbT.out.below (below_regrown wr d os)) (ht2.out.below (below_regrown wr d os)))
      have f1 : Hid (∀ d os, Calls Tryd.prog 11 #[.slice (some ⟨b1, o1, none⟩) j c1] (grow (redrawn wr d) os) fun e w'' => e = .returned (.int .u32 s1) ∧ ∃ p : Regrown, w'' = grow (redrawn wr p.d) p.os) := by
        intro d os; rw [es1]; exact Calls.regrown_of (of_b _ _ _ (hbl.out.below (below_regrown wr d os)) (ht2.out.below (below_regrown wr d os)))
      have f2 : Hid (∀ d os, Calls Tryd.prog 11 #[.slice (some ⟨b2, o2, none⟩) j c2] (grow (redrawn wr d) os) fun e w'' => e = .returned (.int .u32 s2) ∧ ∃ p : Regrown, w'' = grow (redrawn wr p.d) p.os) := by
        intro d os; rw [es2]; exact Calls.regrown_of (of_b _ _ _ (hbm.out.below (below_regrown wr d os)) (ht2.out.below (below_regrown wr d os)))
      have f3 : Hid (∀ d os, Calls Tryd.prog 11 #[.slice (some ⟨b3, o3, none⟩) j c3] (grow (redrawn wr d) os) fun e w'' => e = .returned (.int .u32 s3) ∧ ∃ p : Regrown, w'' = grow (redrawn wr p.d) p.os) := by
        intro d os; rw [es3]; exact Calls.regrown_of (of_b _ _ _ (hbn.out.below (below_regrown wr d os)) (ht2.out.below (below_regrown wr d os)))
      have f4 : Hid (∀ d os, Calls Tryd.prog 10 #[] (grow (redrawn wr d) os) fun e w'' => e = .returned (.bool true) ∧ ∃ p : Regrown, w'' = grow (redrawn wr p.d) p.os) := by
        intro d os; exact Calls.regrown_of (awake_any _ (ht2.out.below (below_regrown wr d os)))
      have hsx : s1 ^^^ s2 < 4294967296 := xor_lt32 hs1 hs2
      have E1 : bits BinOp.xor IntKind.u32 (s1 : Int) (s2 : Int) = ((s1 ^^^ s2 : Nat) : Int) := u32_xor_nat _ _ hs1 hs2
      have E2 : bits BinOp.xor IntKind.u32 ((s1 ^^^ s2 : Nat) : Int) (s3 : Int) = (s : Int) := by rw [u32_xor_nat _ _ hsx hs3, hjoin]
      clear es es1 es2 es3 hjoin ll hTl hT8 hown hbel hbT
      generalize s1 ^^^ s2 = s12 at *
      go_wp2
      refine wp_region_quiet_below (by kernel_rfl) (by kernel_rfl) ?_
      repeat (quiet_step (first | with_reducible exact f4.out _ _ | with_reducible exact f0.out _ _ | with_reducible exact f1.out _ _ | with_reducible exact f2.out _ _ | with_reducible exact f3.out _ _))
      refine wpQuiet_nil ?_
      intro _ hw'
      obtain ⟨⟨dq, osq⟩, hw''⟩ := hw'
      subst hw''
      go_wp2
      all_goals (go_ret; exact ⟨rfl, Hbel2.out.trans ((below_regrown wr dq osq).mono (by omega))⟩)
set_option maxHeartbeats 1000000 in
theorem sumJoins_zero (x1 x2 x3 : Option Addr) (c1 c2 c3 : Nat) (l m n : List Nat) (k : Nat) (w : World) (hb1 : IsBytes w (.slice x1 l.length c1) l) (hb2 : IsBytes w (.slice x2 m.length c2) m) (hb3 : IsBytes w (.slice x3 n.length c3) n) (ht : TabOk w)
    (k1 : k ≤ l.length) (k2 : k ≤ m.length) (k3 : k ≤ n.length) (hk : k = l.length ∨ k = m.length ∨ k = n.length) (hk3 : k ≤ 3000) (hk0 : k = 0)  :
    Calls Tryd.prog 6 #[.slice x1 l.length c1, .slice x2 m.length c2, .slice x3 n.length c3] w fun e w' => e = .returned (.bool true) ∧ Below w.heap.size w w' := by
  have ht' := Lib.hid ht
  have Hk0 := Lib.hid hk0
  clear hk0
  have hb1' := Lib.hid hb1
  have hb2' := Lib.hid hb2
  have hb3' := Lib.hid hb3
  obtain ⟨h8, _, _, e, g1, g2, -⟩ := hb1
  injection e with e1 e2 e3
  subst e3
  clear e1 e2
  obtain ⟨h8', _, _, e, g1', g2', -⟩ := hb2
  injection e with e1 e2 e3
  subst e3
  clear e1 e2
  obtain ⟨h8'', _, _, e, g1'', g2'', -⟩ := hb3
  injection e with e1 e2 e3
  subst e3
  clear e1 e2 ht
  have hm := Lib.hid (fun W => min3 W l.length m.length n.length k k1 k2 k3 hk)
  have hm' := hm.out
  obtain ⟨Z, eZ, hmk⟩ := run_make_u8 w k hk3
  have hown0 := ownsRow_new w Z 5 k (by unfold maxLen; omega) (by rw [eZ]; simp [cellsOfL])
  have hbel0 : Below w.heap.size w (w.alloc (.cells Z.toArray 5)) := (Below.refl _ _).alloc (Nat.le_refl _) _
  unfold maxLen at g2 g2' g2''
  have q1 : (k : Int) ≤ 3000 := by omega
  have q2 : (k : Int) ≤ (c1 : Int) := by omega
  have q3 : (k : Int) ≤ (c2 : Int) := by omega
  have q4 : (k : Int) ≤ (c3 : Int) := by omega
  have q5 : (k : Int) ≤ (l.length : Int) := by omega
  have q6 : (k : Int) ≤ (m.length : Int) := by omega
  have q7 : (k : Int) ≤ (n.length : Int) := by omega
  obtain ⟨T, eT⟩ : ∃ T, T = xorL (xorL (l.take k) (m.take k)) (n.take k) := ⟨_, rfl⟩
  have hTl : T.length = k := by rw [eT]; simp [xorL]; omega
  have hT8 : ∀ x ∈ T, x < 256 := by
    intro x hx
    rw [eT] at hx
    obtain ⟨i, hi, rfl⟩ := List.getElem_of_mem hx
    have hi' : i < k := by have := hi; simp [xorL] at this; omega
    simp only [xorL, List.getElem_zipWith, List.getElem_take]
    have a1 := h8 (l[i]'(by omega)) (List.getElem_mem _)
    have a2 := h8' (m[i]'(by omega)) (List.getElem_mem _)
    have a3 := h8'' (n[i]'(by omega)) (List.getElem_mem _)
    exact Nat.xor_lt_two_pow (n := 8) (Nat.xor_lt_two_pow a1 a2) a3
  have hTj : ∀ j, j < k → T.getD j 0 = l.getD j 0 ^^^ m.getD j 0 ^^^ n.getD j 0 := by
    intro j hj
    rw [eT]
    have b1 : j < l.length := by omega
    have b2 : j < m.length := by omega
    have b3 : j < n.length := by omega
    simp [xorL, List.getD_eq_getElem?_getD, hj, b1, b2, b3, List.getElem?_zipWith]
  have hZ : cellsOfL (part T k 0) = Z := by rw [eZ, part_zero]
  have hjoin : moreOf 0 T = moreOf 0 (l.take k) ^^^ moreOf 0 (m.take k) ^^^ moreOf 0 (n.take k) := by
    rw [eT]
    rw [eT] at hT8
    exact joins _ _ _ (by simp; omega) (by simp; omega) (fun x hx => h8 x (List.mem_of_mem_take hx)) (fun x hx => h8' x (List.mem_of_mem_take hx)) (fun x hx => h8'' x (List.mem_of_mem_take hx)) hT8
  have HT := Lib.hid (And.intro hTl (And.intro hT8 (And.intro hTj hjoin)))
  have Hown : Hid ((w.alloc (.cells Z.toArray 5)).ownsRow w.heap.size 5 1 (.slice (some ⟨w.heap.size, 0, none⟩) k k) k (cellsOfL (part T k 0))) := by rw [hZ]; exact hown0
  have Hbel := Lib.hid hbel0
  have hsz : w.heap.size < (w.alloc (.cells Z.toArray 5)).heap.size := by simp
  clear eT hTl hT8 hTj hjoin eZ hZ hown0 hbel0 hk
  go_enter Tryd.func6, Tryd.ntmps6
  go_wp2
  go_loopw [9, 24] (fun _ i wr => ∃ j : Nat, j ≤ k ∧ i = .int .i64 j ∧ wr.ownsRow w.heap.size 5 1 (.slice (some ⟨w.heap.size, 0, none⟩) k k) k (cellsOfL (part T k j)) ∧ Below w.heap.size w wr ∧ w.heap.size < wr.heap.size) (fun _ i _ => k - (intOf i).toNat)
  case atStart => exact ⟨0, Nat.zero_le _, rfl, Hown.out, Hbel.out, hsz⟩
  case round =>
    obtain ⟨j, hj, rfl, hown, hbel, hsz2⟩ := hrel
    have hk0 := Hk0.out
    · obtain rfl : j = k := by omega
      clear hk0
      obtain ⟨hTl, hT8, -, hjoin⟩ := HT.out
      rw [part_full T j hTl] at hown
      have ht2 := Lib.hid (ht'.out.below hbel)
      have hbT : IsBytes wr (.slice (some ⟨w.heap.size, 0, none⟩) j j) T := by
        have := isBytes_own (v := .slice (some ⟨w.heap.size, 0, none⟩) j j) (l := T) (by rw [hTl]; exact hown) hT8
        exact this
      have HbT := Lib.hid hbT
      have hbl := Lib.hid ((hb1'.out.take j k1).below hbel)
      have hbm := Lib.hid ((hb2'.out.take j k2).below hbel)
      have hbn := Lib.hid ((hb3'.out.take j k3).below hbel)
      have Hbel2 := Lib.hid hbel
      have ll : ∀ v q, IsBytes wr v q → moreOf 0 q < 4294967296 := fun v q h => moreOf_lt (by omega) h.1
      obtain ⟨s, es, hs⟩ : ∃ s, s = moreOf 0 T ∧ s < 4294967296 := ⟨_, rfl, ll _ _ hbT⟩
      obtain ⟨s1, es1, hs1⟩ : ∃ s, s = moreOf 0 (l.take j) ∧ s < 4294967296 := ⟨_, rfl, ll _ _ hbl.out⟩
      obtain ⟨s2, es2, hs2⟩ : ∃ s, s = moreOf 0 (m.take j) ∧ s < 4294967296 := ⟨_, rfl, ll _ _ hbm.out⟩
      obtain ⟨s3, es3, hs3⟩ : ∃ s, s = moreOf 0 (n.take j) ∧ s < 4294967296 := ⟨_, rfl, ll _ _ hbn.out⟩
      rw [← es, ← es1, ← es2, ← es3] at hjoin
      have sl1 := fun W => slice_to W x1 l.length c1 j (by omega)
      have sl2 := fun W => slice_to W x2 m.length c2 j (by omega)
      have sl3 := fun W => slice_to W x3 n.length c3 j (by omega)
      have f0 : Hid (∀ d os, Calls Tryd.prog 11 #[.slice (some ⟨w.heap.size, 0, none⟩) j j] (grow (redrawn wr d) os) fun e w'' => e = .returned (.int .u32 s) ∧ ∃ p : Regrown, w'' = grow (redrawn wr p.d) p.os) := by
        intro d os; rw [es]; exact Calls.regrown_of (of_b _ _ _ (HbT.out.below (below_regrown wr d os)) (ht2.out.below (below_regrown wr d os)))
      have f1 : Hid (∀ d os, Calls Tryd.prog 11 #[.slice x1 j c1] (grow (redrawn wr d) os) fun e w'' => e = .returned (.int .u32 s1) ∧ ∃ p : Regrown, w'' = grow (redrawn wr p.d) p.os) := by
        intro d os; rw [es1]; exact Calls.regrown_of (of_b _ _ _ (hbl.out.below (below_regrown wr d os)) (ht2.out.below (below_regrown wr d os)))
      have f2 : Hid (∀ d os, Calls Tryd.prog 11 #[.slice x2 j c2] (grow (redrawn wr d) os) fun e w'' => e = .returned (.int .u32 s2) ∧ ∃ p : Regrown, w'' = grow (redrawn wr p.d) p.os) := by
        intro d os; rw [es2]; exact Calls.regrown_of (of_b _ _ _ (hbm.out.below (below_regrown wr d os)) (ht2.out.below (below_regrown wr d os)))
      have f3 : Hid (∀ d os, Calls Tryd.prog 11 #[.slice x3 j c3] (grow (redrawn wr d) os) fun e w'' => e = .returned (.int .u32 s3) ∧ ∃ p : Regrown, w'' = grow (redrawn wr p.d) p.os) := by
        intro d os; rw [es3]; exact Calls.regrown_of (of_b _ _ _ (hbn.out.below (below_regrown wr d os)) (ht2.out.below (below_regrown wr d os)))
      have f4 : Hid (∀ d os, Calls Tryd.prog 10 #[] (grow (redrawn wr d) os) fun e w'' => e = .returned (.bool true) ∧ ∃ p : Regrown, w'' = grow (redrawn wr p.d) p.os) := by
        intro d os; exact Calls.regrown_of (awake_any _ (ht2.out.below (below_regrown wr d os)))
      have hsx : s1 ^^^ s2 < 4294967296 := xor_lt32 hs1 hs2
      have E1 : bits BinOp.xor IntKind.u32 (s1 : Int) (s2 : Int) = ((s1 ^^^ s2 : Nat) : Int) := u32_xor_nat _ _ hs1 hs2
      have E2 : bits BinOp.xor IntKind.u32 ((s1 ^^^ s2 : Nat) : Int) (s3 : Int) = (s : Int) := by rw [u32_xor_nat _ _ hsx hs3, hjoin]
      clear es es1 es2 es3 hjoin ll hTl hT8 hown hbel hbT
      generalize s1 ^^^ s2 = s12 at *
      go_wp2
      refine wp_region_quiet_below (by kernel_rfl) (by kernel_rfl) ?_
      repeat (quiet_step (first | with_reducible exact f4.out _ _ | with_reducible exact f0.out _ _ | with_reducible exact f1.out _ _ | with_reducible exact f2.out _ _ | with_reducible exact f3.out _ _))
      refine wpQuiet_nil ?_
      intro _ hw'
      obtain ⟨⟨dq, osq⟩, hw''⟩ := hw'
      subst hw''
      go_wp2
      all_goals (go_ret; exact ⟨rfl, Hbel2.out.trans ((below_regrown wr dq osq).mono (by omega))⟩)
set_option maxHeartbeats 400000 in
theorem sumJoins_long (a1 a2 a3 : Option Addr) (c1 c2 c3 n1 n2 n3 : Nat) (k : Nat) (w : World) (ht : TabOk w) (k1 : k ≤ n1) (k2 : k ≤ n2) (k3 : k ≤ n3) (hk : k = n1 ∨ k = n2 ∨ k = n3) (hk3 : 3000 < k) :
    Calls Tryd.prog 6 #[.slice a1 n1 c1, .slice a2 n2 c2, .slice a3 n3 c3] w fun e w' => e = .returned (.bool true) ∧ Below w.heap.size w w' := by
  have ht' := Lib.hid ht
  have hm' := fun W => min3 W n1 n2 n3 k k1 k2 k3 hk
  have q1 : (3000 : Int) < (k : Int) := by omega
  clear ht k1 k2 k3 hk hk3
  go_enter Tryd.func6, Tryd.ntmps6
  go_wp2_with (go_at_call 10; refine (awake_any _ ht'.out).mono ?_; rintro e w' ⟨rfl, hw⟩)
  go_ret
  exact ⟨rfl, hw⟩
theorem sumJoins_walk (v1 : Value) (l : List Nat) (v2 : Value) (m : List Nat) (v3 : Value) (n : List Nat) (w : World) (hb1 : IsBytes w v1 l) (hb2 : IsBytes w v2 m) (hb3 : IsBytes w v3 n) (ht : TabOk w) :
    Calls Tryd.prog 6 #[v1, v2, v3] w fun e w' => e = .returned (.bool true) ∧ Below w.heap.size w w' := by
  have hb1' := hb1
  have hb2' := hb2
  have hb3' := hb3
  obtain ⟨-, a1, c1, rfl, -, -, h1⟩ := hb1
  obtain ⟨-, a2, c2, rfl, -, -, h2⟩ := hb2
  obtain ⟨-, a3, c3, rfl, -, -, h3⟩ := hb3
  obtain ⟨k, k1, k2, k3, hk⟩ := min3_exists l.length m.length n.length
  by_cases q : 3000 < k
  · exact sumJoins_long _ _ _ _ _ _ _ _ _ k w ht k1 k2 k3 hk q
  · by_cases q0 : k = 0
    · exact sumJoins_zero _ _ _ _ _ _ l m n k w hb1' hb2' hb3' ht k1 k2 k3 hk (by omega) q0
    · obtain ⟨b1, o1, rfl, -⟩ := h1 (by rintro rfl; simp at k1; omega)
      obtain ⟨b2, o2, rfl, -⟩ := h2 (by rintro rfl; simp at k2; omega)
      obtain ⟨b3, o3, rfl, -⟩ := h3 (by rintro rfl; simp at k3; omega)
      exact sumJoins_some _ _ _ _ _ _ _ _ _ l m n k w hb1' hb2' hb3' ht k1 k2 k3 hk (by omega)
end Go.Proofs.YtnnkcohkgckclaaDoor.Tithe
