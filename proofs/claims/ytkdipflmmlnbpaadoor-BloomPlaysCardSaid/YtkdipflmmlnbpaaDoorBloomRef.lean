/- The document's places of a key. -/
import Derived.Test.YtkdipflmmlnbpaaDoorBloomKeeps
namespace Go.Proofs.YtkdipflmmlnbpaaDoor.Tithe
open Go.RowKit Go.Sort Go.Shelf
set_option linter.unusedVariables false
def cellsI (l : List Nat) : List Value := l.map fun x => .int .i64 (x : Nat)
theorem intinfo : (Tryd.prog.info? 3).map (fun i => (i.zero, i.size, i.bytes)) = some (some (.int .i64 0), 1, 8) := by kernel_rfl
theorem or_one (m : Nat) : m ||| 1 = if m % 2 = 0 then m + 1 else m := by
  apply Nat.eq_of_testBit_eq
  intro i
  rw [Nat.testBit_or]
  cases i with
  | zero =>
    rcases Nat.mod_two_eq_zero_or_one m with q | q
    · rw [if_pos q]; simp [Nat.testBit_zero, q]; omega
    · rw [if_neg (by omega)]; simp [Nat.testBit_zero, q]
  | succ i =>
    rw [Nat.testBit_succ, Nat.testBit_succ, Nat.testBit_succ]
    have e : (if m % 2 = 0 then m + 1 else m) / 2 = m / 2 := by split <;> omega
    rw [e]
    simp
theorem refplaces_any (v : Value) (l : List Nat) (n p : Nat) (w : World) (hb : IsBytes w v l) (hn : 0 < n) (hn' : n ≤ 16777216) (hp : p ≤ 1000) :
    Calls Tryd.prog 25 #[v, .int .i64 n, .int .i64 p] w fun e w' => ∃ x, e = .returned x ∧ w'.ownsRow w.heap.size 3 1 x p (cellsI (keyPlaces l n p)) ∧ Below w.heap.size w w' := by
  obtain ⟨i0, hi0, hz0, hz1, hz2⟩ := info_parts intinfo
  have cOf := refOf_any v l w hb
  have hc : 4294967295 - refRun 4294967295 l = keyC l := by unfold keyC moreOf; rw [← runBytes_eq]
  rw [hc] at cOf
  have COf := Lib.hid cOf
  have hcl := keyC_lt hb.1
  have CM := Lib.hid (refmask_any (keyC l) hcl w)
  have hD : keyD l = if maskOf (keyC l) % 2 = 0 then maskOf (keyC l) + 1 else maskOf (keyC l) := or_one _
  have hml := maskOf_lt (keyC l)
  have hdl := keyD_lt l
  unfold keyPlaces
  generalize maskOf (keyC l) = m at *
  generalize keyD l = d at *
  generalize keyC l = c at *
  clear cOf hc hb
  have main : ∀ r : Nat, r < 2 → m % 2 = r → Calls Tryd.prog 25 #[v, .int .i64 n, .int .i64 p] w fun e w' => ∃ x, e = .returned x ∧ w'.ownsRow w.heap.size 3 1 x p (cellsI (places c d n p)) ∧ Below w.heap.size w w' := by
    intro r hr2 hr
    have hmr : (m : Int) % 2 = (r : Int) := by omega
    have HD := Lib.hid hD
    have HR := Lib.hid hr
    clear hD hr
    obtain rfl | rfl : r = 0 ∨ r = 1 := by omega
    all_goals
      go_enter Tryd.func25, Tryd.ntmps25
      go_wp2_with fail
      refine COf.out.mono ?_
      rintro e w' ⟨rfl, rfl⟩
      go_wp2_with fail
      refine CM.out.mono ?_
      rintro e w' ⟨rfl, rfl⟩
      go_wp2_with fail
    · have e9 : (m : Int) + 1 = (d : Int) := by have := HD.out; rw [if_pos HR.out] at this; omega
      rw [e9]
      clear e9
      clear hmr
      go_loopw [10, 11] (fun x i wr => ∃ k : Nat, k ≤ p ∧ i = .int .i64 k ∧ wr.ownsRow w.heap.size 3 1 x k (cellsI (places c d n k)) ∧ Below w.heap.size w wr) (fun _ i _ => p - (intOf i).toNat)
      case atStart => exact ⟨0, Nat.zero_le _, rfl, World.ownsRow_nil w _ _ _, Below.refl _ _⟩
      case round =>
        obtain ⟨k, hk, rfl, hown, hb⟩ := hrel
        have hwr : w.heap.size ≤ wr.heap.size := hb.size
        by_cases hlt : k < p
        · have hk30 : k * d ≤ 1000 * 4294967296 := Nat.mul_le_mul (by omega) (by omega)
          have hnext : Hid (cellsI (places c d n (k + 1)) = cellsI (places c d n k) ++ [.int .i64 (((c + k * d) % n : Nat) : Int)]) := by
            show _ = _
            rw [places_succ, cellsI, List.map_append]; rfl
          have hkd : (k : Int) * (d : Int) = ((k * d : Nat) : Int) := (Int.natCast_mul k d).symm
          have hmod : (c + k * d) % n < n := Nat.mod_lt _ hn
          generalize hz : k * d = z at *
          have Hz := Lib.hid hz
          clear hz
          have hsum : (c : Int) + (z : Int) = ((c + z : Nat) : Int) := by omega
          have hs : c + z ≤ 5000000000000 := by omega
          have hem : (((c + z : Nat) : Int) % (n : Int)) = (((c + z) % n : Nat) : Int) := (Int.natCast_emod _ _).symm
          generalize hq : (c + z) % n = q at *
          generalize hzz : c + z = s at *
          have Hq := Lib.hid (And.intro hq hzz)
          clear hq hzz
          go_wp2_with (first | (at_builtin; refine wpList_append_own _ rfl (.tmp 29) (.tmp 40) 45 rfl w.heap.size 3 i0 (.int .i64 0) 1 8 Tryd.underlying45 hi0 hz0 hz1 hz2 rfl (by decide) _ k _ rfl (hown.alloc _) ⟨wr.heap.size, 0, none⟩ 1 1 [.int .i64 (q : Int)] rfl rfl ?c1 ?c2 ?c3 ?c4 ?c5 ?_))
          case c1 =>
            intro j u hj
            match j, hj with
            | 0, hj => simp at hj; subst hj; simp [Addr.add]
          case c2 => intro u hu; simp at hu; subst hu; rfl
          case c3 => unfold maxLen; omega
          case c4 => omega
          case c5 => simp; omega
          intro v' w1 hown' hgrow _
          have hg : Below w.heap.size w w1 := by
            rcases hown.2 with ⟨hx, _⟩ | ⟨g, cap', cur, hx, hgb, _⟩
            · exact (hb.alloc hwr _).grown hgrow (by simp; omega) (fun k hk => by rw [hx] at hk; cases hk)
            · exact (hb.alloc hwr _).grown hgrow (by simp; omega) (fun k hk => by rw [hx] at hk; simp [Value.ownBlock] at hk; omega)
          rw [← hnext.out] at hown'
          clear hown
          go_wp2
          go_roundw
          case rel => first | exact ⟨k + 1, by omega, by go_num, hown', hg⟩ | ((repeat apply Exists.intro); refine ⟨⟨k + 1, by omega, ?_, hown', hg⟩, rfl⟩; go_num)
          case measure => simp [intOf]; omega
        · obtain rfl : k = p := by omega
          go_wp2
          go_ret
          exact ⟨_, rfl, hown, hb⟩
    · obtain rfl : d = m := by have := HD.out; rw [if_neg (by have := HR.out; omega)] at this; exact this
      clear hmr
      go_loopw [10, 11] (fun x i wr => ∃ k : Nat, k ≤ p ∧ i = .int .i64 k ∧ wr.ownsRow w.heap.size 3 1 x k (cellsI (places c d n k)) ∧ Below w.heap.size w wr) (fun _ i _ => p - (intOf i).toNat)
      case atStart => exact ⟨0, Nat.zero_le _, rfl, World.ownsRow_nil w _ _ _, Below.refl _ _⟩
      case round =>
        obtain ⟨k, hk, rfl, hown, hb⟩ := hrel
        have hwr : w.heap.size ≤ wr.heap.size := hb.size
        by_cases hlt : k < p
        · have hk30 : k * d ≤ 1000 * 4294967296 := Nat.mul_le_mul (by omega) (by omega)
          have hnext : Hid (cellsI (places c d n (k + 1)) = cellsI (places c d n k) ++ [.int .i64 (((c + k * d) % n : Nat) : Int)]) := by
            show _ = _
            rw [places_succ, cellsI, List.map_append]; rfl
          have hkd : (k : Int) * (d : Int) = ((k * d : Nat) : Int) := (Int.natCast_mul k d).symm
          have hmod : (c + k * d) % n < n := Nat.mod_lt _ hn
          generalize hz : k * d = z at *
          have Hz := Lib.hid hz
          clear hz
          have hsum : (c : Int) + (z : Int) = ((c + z : Nat) : Int) := by omega
          have hs : c + z ≤ 5000000000000 := by omega
          have hem : (((c + z : Nat) : Int) % (n : Int)) = (((c + z) % n : Nat) : Int) := (Int.natCast_emod _ _).symm
          generalize hq : (c + z) % n = q at *
          generalize hzz : c + z = s at *
          have Hq := Lib.hid (And.intro hq hzz)
          clear hq hzz
          go_wp2_with (first | (at_builtin; refine wpList_append_own _ rfl (.tmp 29) (.tmp 40) 45 rfl w.heap.size 3 i0 (.int .i64 0) 1 8 Tryd.underlying45 hi0 hz0 hz1 hz2 rfl (by decide) _ k _ rfl (hown.alloc _) ⟨wr.heap.size, 0, none⟩ 1 1 [.int .i64 (q : Int)] rfl rfl ?c1 ?c2 ?c3 ?c4 ?c5 ?_))
          case c1 =>
            intro j u hj
            match j, hj with
            | 0, hj => simp at hj; subst hj; simp [Addr.add]
          case c2 => intro u hu; simp at hu; subst hu; rfl
          case c3 => unfold maxLen; omega
          case c4 => omega
          case c5 => simp; omega
          intro v' w1 hown' hgrow _
          have hg : Below w.heap.size w w1 := by
            rcases hown.2 with ⟨hx, _⟩ | ⟨g, cap', cur, hx, hgb, _⟩
            · exact (hb.alloc hwr _).grown hgrow (by simp; omega) (fun k hk => by rw [hx] at hk; cases hk)
            · exact (hb.alloc hwr _).grown hgrow (by simp; omega) (fun k hk => by rw [hx] at hk; simp [Value.ownBlock] at hk; omega)
          rw [← hnext.out] at hown'
          clear hown
          go_wp2
          go_roundw
          case rel => first | exact ⟨k + 1, by omega, by go_num, hown', hg⟩ | ((repeat apply Exists.intro); refine ⟨⟨k + 1, by omega, ?_, hown', hg⟩, rfl⟩; go_num)
          case measure => simp [intOf]; omega
        · obtain rfl : k = p := by omega
          go_wp2
          go_ret
          exact ⟨_, rfl, hown, hb⟩
  exact main (m % 2) (Nat.mod_lt _ (by omega)) rfl
end Go.Proofs.YtkdipflmmlnbpaaDoor.Tithe
