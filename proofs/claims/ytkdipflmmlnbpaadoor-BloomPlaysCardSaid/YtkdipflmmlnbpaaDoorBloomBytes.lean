/- Bytes, New, Parse. -/
import Derived.Test.YtkdipflmmlnbpaaDoorBloomOps
import Derived.Deep.RegionHeld3
namespace Go.Proofs.YtkdipflmmlnbpaaDoor.Tithe
open Go.RowKit Go.Sort Go.Shelf
set_option linter.unusedVariables false
/-- what Bytes hands over -/
theorem bytes_any (fb gb cap : Nat) (bs : List Nat) (p : Nat) (w : World) (hf : IsFilter w fb gb cap bs p) :
    Calls Tryd.prog 22 #[.pointer (some ⟨fb, 0, none⟩)] w fun e w' => ∃ v, e = .returned v ∧ w'.ownsRow w.heap.size 5 1 v (p :: bs).length (cellsOfL (p :: bs)) ∧ Below w.heap.size w w' := by
  have c0 : w.cell? ⟨fb, 0, none⟩ = some (.slice (some ⟨gb, 0, none⟩) bs.length cap) := by rw [cell_of_blk hf.blk]; rfl
  have c1 : w.cell? ⟨fb, 1, none⟩ = some (.int .i64 p) := by rw [cell_of_blk hf.blk]; rfl
  have HF := Lib.hid hf
  clear hf
  go_enter Tryd.func22, Tryd.ntmps22
  go_wp2
  obtain ⟨i0, hi0, hz0, hz1, hz2⟩ := info_parts u8info
  have hg := HF.out.lt
  have hcap := own_blk HF.out.own
  have hn : ∀ j u, (cellsOfL bs)[j]? = some u → w.cell? ((⟨gb, 0, none⟩ : Addr).add j) = some u := HF.out.own.cells rfl
  have hm := HF.out.most
  have hpos := HF.out.pos
  have hp := HF.out.p30
  have hn2 : ∀ (o : Obj) j u, (cellsOfL bs)[j]? = some u → (w.drew.alloc o).cell? ((⟨gb, 0, none⟩ : Addr).add j) = some u := fun o j u h => by
    have h1 := hn j u h
    rw [plain_add] at h1 ⊢
    rw [World.cell?_alloc_lt w.drew _ _ hg.2]; exact h1
  have Hn := Lib.hid hn2
  clear hn hn2 hcap
  go_region_held3 (fun w' => w'.cell? ⟨fb, 0, none⟩ = some (.slice (some ⟨gb, 0, none⟩) bs.length cap) ∧ w'.cell? ⟨fb, 1, none⟩ = some (.int .i64 p))
    (first
      | go_keep
      | (go_split_ands
         refine ⟨?_, ?_⟩
         · (rw [hgrow.cell_far _ (by simp; omega) (by simp [Value.ownBlock]; omega)]; assumption)
         · (rw [hgrow.cell_far _ (by simp; omega) (by simp [Value.ownBlock]; omega)]; assumption)))
    ((refine step_append_lies _ (by rfl) _ _ _ (by rfl) w.heap.size 5 i0 _ 1 1 Tryd.underlying29 hi0 hz0 hz1 hz2 rfl (by omega) (.slice (some ⟨w.heap.size, 0, none⟩) 1 1) 1 _ (by rfl) (World.ownsRow_lit w.drew _ 1 (Nat.le_refl _) (by decide) rfl)
        ⟨gb, 0, none⟩ bs.length cap (cellsOfL bs) (by rfl) (by simp [cellsOfL]) (fun j u h => Hn.out _ j u h) (cellsOfL_one bs) hpos (by unfold maxLen; omega) (by omega) (by simp) (w.heap.size + 1) (by simp) ?_; intro gg cap' w1 hown1 hgrow hat hlt))
  have hpw : Hid (IntKind.u8.wrap (p : Int) = (p : Int)) := by show _ = _; rw [IntKind.wrap_u8']; omega
  go_wp2
  go_ret
  refine ⟨_, rfl, ?_, ?_⟩
  · have h := hown1
    rw [hpw.out] at h
    rw [Nat.add_comm bs.length 1]
    exact h
  · exact (((Below.refl _ _).alloc (Nat.le_refl _) _).drew).grown hgrow (by simp) (fun k e => by simp [Value.ownBlock] at e; omega)
/-- a new filter -/
def newLen (keys each : Nat) : Nat := (max (keys * each) 64 + 7) / 8
def newProbes (each : Nat) : Nat := max (each * 7 / 10) 1
theorem new_no (n e : Int) (w : World) (h : n < 0 ∨ 65536 < n ∨ e < 1 ∨ 32 < e) :
    Calls Tryd.prog 11 #[.int .i64 n, .int .i64 e] w fun r w' => r = .returned (.tuple #[.pointer none, .int .i64 70]) ∧ w = w' := by
  have key : ∀ (q : decide (n < 0) = true ∨ (decide (n < 0) = false ∧ (decide (65536 < n) = true ∨ (decide (65536 < n) = false ∧ (decide (e < 1) = true ∨ (decide (e < 1) = false ∧ decide (32 < e) = true)))))), Calls Tryd.prog 11 #[.int .i64 n, .int .i64 e] w fun r w' => r = .returned (.tuple #[.pointer none, .int .i64 70]) ∧ w = w' := by
    intro q
    clear h
    rcases q with q1 | ⟨q1, q2 | ⟨q2, q3 | ⟨q3, q4⟩⟩⟩
    all_goals
      go_enter Tryd.func11, Tryd.ntmps11
      go_wp2
      go_ret2
      exact ⟨rfl, rfl⟩
  refine key ?_
  simp only [decide_eq_true_eq, decide_eq_false_iff_not]
  omega
theorem max2 (w : World) (a b : Nat) (x y : Int) (hx : x = (a : Int)) (hy : y = (b : Int)) : (Builtin.max_ #[3, 3] 3 #[.int .i64 x, .int .i64 y]).run Tryd.prog w = .ok (.int .i64 (max a b : Nat)) w := by
  subst hx hy
  rw [run_max_int2]
  have : (if (b : Int) > (a : Int) then (b : Int) else (a : Int)) = ((max a b : Nat) : Int) := by split <;> omega
  exact congrArg (fun z => Result.ok (Value.int .i64 z) w) this
theorem run_make_zeros (w : World) (k : Nat) (hk : k ≤ 16777216) : (Instr.makeSlice 29 (.int .i64 (k : Int)) (.int .i64 (k : Int))).run Tryd.prog w = .ok (.slice (some ⟨w.heap.size, 0, none⟩) k k) (w.alloc (.cells (cellsOfL (List.replicate k 0)).toArray 5)) := by
  obtain ⟨i0, hi0, hz0, hz1, hz2⟩ := info_parts u8info
  have := run_make (P := Tryd.prog) w _ _ i0 _ Tryd.underlying29 hi0 hz0 .i64 .i64 (k : Int) (k : Int) (by omega) (by omega) (by rw [hz2]; omega) (by omega)
  rw [this]
  simp only [Int.toNat_natCast, hz1, Nat.mul_one]
  congr 3
  apply Array.ext'
  unfold madeCells cellsOfL
  simp
  apply List.ext_getElem
  · simp
  · intro i h1 h2
    simp [Value.cells, Nat.mod_one]
theorem ownsRow_new (w : World) (Z : List Value) (t : TypeId) (k : Nat) (hk : k ≤ maxLen) (hz : Z.length = k) : (w.alloc (.cells Z.toArray t)).ownsRow w.heap.size t 1 (.slice (some ⟨w.heap.size, 0, none⟩) k k) k Z := by
  refine ⟨by omega, .inr ⟨w.heap.size, k, Z.toArray, rfl, Nat.le_refl _, ?_, Nat.le_refl _, hk, by simp; omega, ?_⟩⟩
  · show (w.heap.push _)[w.heap.size]? = _
    simp
  · simp [← hz]
theorem new_yes (n e : Nat) (w : World) (hn : n ≤ 65536) (h1 : 1 ≤ e) (h2 : e ≤ 32) :
    Calls Tryd.prog 11 #[.int .i64 n, .int .i64 e] w fun r w' => r = .returned (.tuple #[.pointer (some ⟨w.heap.size + 1, 0, none⟩), .int .i64 0]) ∧ IsFilter w' (w.heap.size + 1) w.heap.size (newLen n e) (List.replicate (newLen n e) 0) (newProbes e) ∧ Below w.heap.size w w' ∧ w'.heap.size = w.heap.size + 2 := by
  have hne : n * e ≤ 2097152 := by
    have : n * e ≤ 65536 * 32 := Nat.mul_le_mul hn h2
    omega
  have q1 : decide ((n : Int) < 0) = false := by simp
  have q2 : decide ((65536 : Int) < (n : Int)) = false := by simp; omega
  have q3 : decide ((e : Int) < 1) = false := by simp; omega
  have q4 : decide ((32 : Int) < (e : Int)) = false := by simp; omega
  obtain ⟨M, eM, hM1, hM2⟩ : ∃ M, M = max (n * e) 64 ∧ 64 ≤ M ∧ M ≤ 2097152 := ⟨_, rfl, by omega, by omega⟩
  obtain ⟨L, eL, hL⟩ : ∃ L, L = newLen n e ∧ ((M : Int) + 8 - 1) / 8 = (L : Int) := ⟨_, rfl, by unfold newLen; rw [← eM]; omega⟩
  have hL1 : 8 ≤ L ∧ L ≤ 262144 := by omega
  have m1 := fun W => max2 W (n * e) 64 ((n : Int) * (e : Int)) 64 (by rw [Int.natCast_mul]) rfl
  have m2 := fun W => max2 W (e * 7 / 10) 1 ((e : Int) * 7 / 10) 1 (by omega) rfl
  have hp : Hid (max (e * 7 / 10) 1 = newProbes e) := rfl
  have hpb : 1 ≤ newProbes e ∧ newProbes e ≤ 30 := by unfold newProbes; omega
  rw [← eM] at m1
  rw [hp.out] at m2
  have hmk := fun W => run_make_zeros W L (by omega)
  have hneI : (n : Int) * (e : Int) ≤ 2097152 := by rw [← Int.natCast_mul]; omega
  have hneP : 0 ≤ (n : Int) * (e : Int) := by rw [← Int.natCast_mul]; omega
  rw [← eL]
  clear hp eM eL hn hne
  generalize newProbes e = pr at *
  go_enter Tryd.func11, Tryd.ntmps11
  go_wp2
  go_ret2
  have hll : (List.replicate L 0).length = L := by simp
  refine ⟨rfl, ⟨?_, ?_, by intro x hx; rw [List.eq_of_mem_replicate hx]; decide, by rw [hll]; omega, by rw [hll]; omega, hpb⟩, ((Below.refl _ _).alloc (Nat.le_refl _) _).alloc (by simp) _, by simp⟩
  · rw [hll]
    have := World.alloc_heap_new (w.alloc (.cells (cellsOfL (List.replicate L 0)).toArray 5)) (.cells #[.slice (some ⟨w.heap.size, 0, none⟩) L L, .int .i64 pr] 51)
    rw [World.size_alloc] at this
    exact this
  · rw [hll]
    have h := (ownsRow_new w (cellsOfL (List.replicate L 0)) 5 L (by unfold maxLen; omega) (by simp [cellsOfL])).alloc (.cells #[.slice (some ⟨w.heap.size, 0, none⟩) L L, .int .i64 pr] 51)
    obtain ⟨a, b⟩ := h
    refine ⟨a, ?_⟩
    rcases b with b | ⟨g, c, cur, h1, h2, h3⟩
    · exact .inl b
    · exact .inr ⟨g, c, cur, h1, Nat.zero_le _, h3⟩
end Go.Proofs.YtkdipflmmlnbpaaDoor.Tithe
