/- awake. -/
import Derived.Test.YtkdipflmmlnbpaaDoorBloomRows
namespace Go.Proofs.YtkdipflmmlnbpaaDoor.Tithe
open Go.RowKit Go.Sort Go.Shelf
set_option linter.unusedVariables false
theorem aw1 : hasL (List.replicate 13 0) (keyPlaces [120] 104 7) = false := by decide +kernel
theorem aw2 : hasL (addL (List.replicate 13 0) (keyPlaces [120] 104 7)) (keyPlaces [120] 104 7) = true := by decide +kernel
theorem aw3 : 0 < popL (addL (List.replicate 13 0) (keyPlaces [120] 104 7)) := by decide +kernel
theorem awake_any (w : World) (ht : TabOk w) :
    Calls Tryd.prog 10 #[] w fun e w' => e = .returned (.bool true) ∧ Below w.heap.size w w' := by
  have Ht := Lib.hid ht
  clear ht
  have kc := fun (w : World) (C : Array Value) (n c : Nat) => Lib.run_convert_bytes_const (P := Tryd.prog) w 29 5 C n c Tryd.underlying29 Tryd.underlying5
  go_enter Tryd.func10, Tryd.ntmps10
  go_wp2_with fail
  refine (new_yes 10 10 w (by omega) (by omega) (by omega)).mono ?_
  rintro e w1 ⟨rfl, hf1, hb1, hs1⟩
  have e13 : newLen 10 10 = 13 := by decide
  have e7 : newProbes 10 = 7 := by decide
  rw [e13, e7] at hf1
  have HF1 := Lib.hid hf1
  have HS1 := Lib.hid hs1
  clear hf1 e13 e7 hs1
  go_wp2_with fail
  refine (bits_any _ _ _ _ _ w1 HF1.out).mono ?_
  rintro e w' ⟨rfl, rfl⟩
  go_wp2_with fail
  refine (probes_any _ _ _ _ _ w1 HF1.out).mono ?_
  rintro e w' ⟨rfl, rfl⟩
  go_wp2_with fail
  have x8 : ∀ x ∈ ([120] : List Nat), x < 256 := by decide
  have hA := Lib.hid (isBytes_new w1 [120] #[Value.int .u8 120] 5 (1, 2) x8 (by decide) rfl)
  have bA : Below w1.heap.size w1 (w1.alloc (.cells #[Value.int .u8 120] 5 (1, 2))) := (Below.refl _ _).alloc (Nat.le_refl _) _
  have tA := Lib.hid (Ht.out.below (hb1.trans (bA.mono (by have := hb1.size; omega))))
  have fA := Lib.hid (HF1.out.below (B := 0) bA)
  refine (has_any _ _ _ _ _ hA.out tA.out _ _ _ _ _ fA.out).mono ?_
  rintro e w2 ⟨rfl, hb2⟩
  rw [show 8 * (List.replicate 13 0).length = 104 from rfl, aw1]
  have hb2' : Below w1.heap.size w1 w2 := bA.trans (hb2.mono (by simp))
  have HF2 := Lib.hid (HF1.out.below (B := 0) hb2')
  have bw2 : Below w.heap.size w w2 := hb1.trans (hb2'.mono (by have := hb1.size; omega))
  clear hA bA tA fA hb2 hb2'
  go_wp2_with fail
  have hA2 := Lib.hid (isBytes_new w2 [120] #[Value.int .u8 120] 5 (1, 2) x8 (by decide) rfl)
  have bA2 : Below w2.heap.size w2 (w2.alloc (.cells #[Value.int .u8 120] 5 (1, 2))) := (Below.refl _ _).alloc (Nat.le_refl _) _
  have tA2 := Lib.hid (Ht.out.below (bw2.trans (bA2.mono (by have := bw2.size; omega))))
  have fA2 := Lib.hid (HF2.out.below (B := 0) bA2)
  have hs12 : w.heap.size + 1 < w2.heap.size := HF2.out.lt.1
  refine (add_keep _ _ _ _ [120] _ _ _ _ _ fA2.out ?_).mono ?_
  · intro W' hg
    have := Ht.out.lt
    exact ⟨hA2.out.grown hg (by omega), tA2.out.grown hg (by omega)⟩
  rintro e w3 ⟨⟨v, rfl⟩, hf3, hg3⟩
  have tw3 := Lib.hid ((tA2.out.grown hg3 (by have := Ht.out.lt; omega)))
  rw [show 8 * (List.replicate 13 0).length = 104 from rfl] at hf3
  have h13 : (addL (List.replicate 13 0) (keyPlaces [120] 104 7)).length = 13 := by rw [addL_length]; rfl
  have h2' := aw2
  have h3' := aw3
  generalize addL (List.replicate 13 0) (keyPlaces [120] 104 7) = cs at *
  have HF3 := Lib.hid hf3
  have bw3 : Below w.heap.size w w3 := (bw2.trans (bA2.mono (by omega))).trans (grown_below hg3 (Nat.le_refl _) (by have := bw2.size; have := bA2.size; omega))
  clear hf3 hA2 bA2 tA2 fA2 hg3
  go_wp2_with fail
  have hA3 := Lib.hid (isBytes_new w3 [120] #[Value.int .u8 120] 5 (1, 2) x8 (by decide) rfl)
  have bA3 : Below w3.heap.size w3 (w3.alloc (.cells #[Value.int .u8 120] 5 (1, 2))) := (Below.refl _ _).alloc (Nat.le_refl _) _
  have tA3 := Lib.hid (tw3.out.below bA3)
  have fA3 := Lib.hid (HF3.out.below (B := 0) bA3)
  refine (has_any _ _ _ _ _ hA3.out tA3.out _ _ _ _ _ fA3.out).mono ?_
  rintro e w4 ⟨rfl, hb4⟩
  rw [h13, h2']
  have hb4' : Below w3.heap.size w3 w4 := bA3.trans (hb4.mono (by simp))
  have HF4 := Lib.hid (HF3.out.below (B := 0) hb4')
  have bw4 : Below w.heap.size w w4 := bw3.trans (hb4'.mono (by have := bw3.size; omega))
  clear hA3 bA3 tA3 fA3 hb4 hb4'
  go_wp2_with fail
  refine (set_any _ _ _ _ _ w4 HF4.out).mono ?_
  rintro e w' ⟨rfl, rfl⟩
  go_wp2
  go_ret
  exact ⟨by simp, bw4⟩
end Go.Proofs.YtkdipflmmlnbpaaDoor.Tithe
