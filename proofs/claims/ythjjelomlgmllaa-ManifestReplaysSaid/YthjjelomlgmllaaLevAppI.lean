/- Version.Apply: one table put in. -/
import Derived.Test.YthjjelomlgmllaaLevAppC
namespace Go.Proofs.Ythjjelomlgmllaa.Tithe
open Go.RowKit Go.Sort Go.Shelf
set_option linter.unusedVariables false
set_option maxRecDepth 100000
theorem addAt_le {l : Nat → List Mr} {L : Lv} {B : Nat} {at0 : Int} {n : Nat} {m : Mt} (h : ∀ m, m < 4 → lvOf l m = L m) (hal : ApL l B at0) (hn : n < 4) : addAt L at0 ((n : Int), m) ≤ (l n).length ∧ (1 ≤ n → addAt L at0 ((n : Int), m) = insN (l n) m.a) := by
  rw [addAt_rows h at0 ((n : Int), m) (by simp) (by simp; omega)]
  simp only [Int.toNat_natCast]
  by_cases e : 0 < (n : Int)
  · rw [if_pos e]
    exact ⟨insN_le _ _, fun _ => rfl⟩
  · rw [if_neg e]
    have hn0 : n = 0 := by omega
    subst hn0
    refine ⟨?_, fun h => by omega⟩
    rcases hal.at0 with h0 | ⟨h0, h1⟩
    · rw [h0, show max (-1 : Int) 0 = 0 from rfl]; exact Nat.zero_le _
    · rw [Int.max_eq_left h0]; omega
theorem ins_step {w Y : World} {So base : Nat} {cE : Array Value} {U : Vn} {L0 L : Lv} {at0 : Int} {pm : List (Int × Mt)} {k n i xn cap P : Nat} {xa : Option Addr} {mz mn : Int} {a b : Ky} {refs : List (Int × Int)} {cp : Array Value}
    (hq : ApQ w So base cE U Y) (hs3 : w.heap.size + 3 ≤ base) (hbS : base ≤ So) (hadd : addsP L0 at0 pm k = some L) (hUL : ∀ m, m < 4 → lvOf U.l m = L m) (hal : ApL U.l (100000 + k) at0) (hk : k ≤ 100000)
    (hpm : pm[k]? = some ((n : Int), ⟨mz, mn, a, b, refs⟩)) (hn : n < 4) (hi : i = addAt L at0 ((n : Int), ⟨mz, mn, a, b, refs⟩)) (hx : U.v n = .slice xa xn cap) (hP : Y.heap[P]? = some (.cells cp 80 (0, 0))) (hrf : refs.length ≤ 1000000)
    (w1 : World) (va : Option Addr) (vc : Nat) (ho : OwnRr w1 Y.heap.size (.slice va refs.length vc) refs) (hb : Below Y.heap.size Y w1) :
    Calls Try.prog 57 #[.slice xa xn cap, .int .i64 i, .slice (some ⟨w1.heap.size, 0, none⟩) 1 1] (w1.alloc (.cells #[.int .i64 mz, .int .i64 mn, .string a.u, .int .i64 a.s, .int .i64 a.k, .string b.u, .int .i64 b.s, .int .i64 b.k, .slice va refs.length vc] 78))
      fun e w2 => ∃ ya yc, e = .returned (.slice ya (xn + 1) yc) ∧ w2.heap[P]? = some (.cells cp 80 (0, 0)) ∧ (∃ v, w2.cell? ⟨So, n, none⟩ = some v) ∧ w2.frozen? ⟨So, n, none⟩ = false ∧ Hid (AdI w So base cE L0 at0 pm (k + 1) (w2.setCell ⟨So, n, none⟩ (.slice ya (xn + 1) yc))) := by
  have hbA : Below Y.heap.size Y (w1.alloc (.cells #[.int .i64 mz, .int .i64 mn, .string a.u, .int .i64 a.s, .int .i64 a.k, .string b.u, .int .i64 b.s, .int .i64 b.k, .slice va refs.length vc] 78)) := hb.alloc hb.size _
  have hq1 := hq.below hb
  have hqA := hq.below hbA
  have hms := hqA.own.own n hn
  have hms1 := hq1.own.own n hn
  rw [hx] at hms hms1
  have hxn := ms_len hms
  obtain ⟨hil, hii⟩ := addAt_le (m := ⟨mz, mn, a, b, refs⟩) hUL hal hn
  rw [← hi] at hil hii
  have hlen := hal.len n hn
  have hbY : base ≤ Y.heap.size := Nat.le_of_lt (Nat.lt_of_le_of_lt hbS (blk_lt hq.out))
  refine (minsert_any xa xn cap i (U.l n) (⟨mz, mn, a, b, refs⟩, .slice va refs.length vc) w1.heap.size _ base hms (own_below (own_mono ho hbY) ((Below.refl _ _).alloc (Nat.le_refl _) _)) (blk_of_alloc _ _) ?_ (by omega) (by omega) (Nat.le_trans hbY hbA.size)).mono ?_
  · intro g e
    subst e
    have := (hms1.1.lt g rfl).2
    omega
  · rintro e w2 ⟨ya, yc, rfl, hown, hg, hl⟩
    have hrow := own_rowblk hms.1
    have hko : ∀ {j : Nat} {cs : Array Value} {t : TypeId}, t ≠ 78 → (w1.alloc (.cells #[.int .i64 mz, .int .i64 mn, .string a.u, .int .i64 a.s, .int .i64 a.k, .string b.u, .int .i64 b.s, .int .i64 b.k, .slice va refs.length vc] 78)).heap[j]? = some (.cells cs t (0, 0)) → w2.heap[j]? = some (.cells cs t (0, 0)) := by
      intro j cs t ht hh
      refine (hg.block j (blk_lt hh) (fun e => ?_)).trans hh
      obtain ⟨cur, hc⟩ := hrow j e.symm
      rw [hh] at hc
      injection hc with hc
      injection hc with _ hc _
      exact ht hc
    have hSo := hko (by decide) hqA.out
    refine ⟨ya, yc, rfl, hko (by decide) (blk_bels hbA hP), ⟨_, (cell_of_blk hSo n).trans (vn_cell U hn)⟩, frozen_of_blk hSo n, ?_⟩
    obtain ⟨L', hL1, hL2⟩ := add_some (at0 := at0) hUL (p := ((n : Int), ⟨mz, mn, a, b, refs⟩)) rfl hn (⟨mz, mn, a, b, refs⟩, .slice va refs.length vc) rfl hi
    refine Lib.hid ⟨_, L', by rw [addsP_step hadd hpm]; exact hL1, hL2, hal.ins hn (⟨mz, mn, a, b, refs⟩, .slice va refs.length vc) (by omega) hrf hii, hq.turn hn hs3 hbS hbA (by rw [hx]; exact hg) hown (fun q hq2 => ?_)⟩
    rcases hl q hq2 with h1 | h1
    · exact .inl (by rw [hx]; exact h1)
    · exact .inr (Nat.le_trans hbA.size h1)
/-- a row of places, at a place -/
theorem IsPl.row {w : World} {b off : Nat} {l : List (Int × Mr)} (h : ∀ i x, l[i]? = some x → ∀ j y, (plC x)[j]? = some y → w.cell? ⟨b, off + i * 10 + j, none⟩ = some y) {i : Nat} {x : Int × Mr} (hx : l[i]? = some x) :
    w.cell? ⟨b, off + i * 10, none⟩ = some (.int .i64 x.1) ∧ w.cell? ⟨b, off + i * 10 + 1, none⟩ = some (.int .i64 x.2.1.z) ∧ w.cell? ⟨b, off + i * 10 + 2, none⟩ = some (.int .i64 x.2.1.n) ∧ w.cell? ⟨b, off + i * 10 + 3, none⟩ = some (.string x.2.1.a.u) ∧ w.cell? ⟨b, off + i * 10 + 4, none⟩ = some (.int .i64 x.2.1.a.s) ∧ w.cell? ⟨b, off + i * 10 + 5, none⟩ = some (.int .i64 x.2.1.a.k) ∧
    w.cell? ⟨b, off + i * 10 + 6, none⟩ = some (.string x.2.1.b.u) ∧ w.cell? ⟨b, off + i * 10 + 7, none⟩ = some (.int .i64 x.2.1.b.s) ∧ w.cell? ⟨b, off + i * 10 + 8, none⟩ = some (.int .i64 x.2.1.b.k) ∧ w.cell? ⟨b, off + i * 10 + 9, none⟩ = some x.2.2 :=
  ⟨h i x hx 0 _ rfl, h i x hx 1 _ rfl, h i x hx 2 _ rfl, h i x hx 3 _ rfl, h i x hx 4 _ rfl, h i x hx 5 _ rfl, h i x hx 6 _ rfl, h i x hx 7 _ rfl, h i x hx 8 _ rfl, h i x hx 9 _ rfl⟩
end Go.Proofs.Ythjjelomlgmllaa.Tithe
