/- Scan: walked. -/
import Derived.Test.YtbnodgoccmhjkaaFlatDel
import Derived.Test.YtbnodgoccmhjkaaFlatGet
import Derived.WalkLawsBesides
namespace Go.Proofs.Ytbnodgoccmhjkaa.Tithe
open Go.RowKit Go.Sort Go.Shelf
set_option linter.unusedVariables false
set_option linter.unusedSimpArgs false
set_option maxRecDepth 100000
/-- what a scan leaves out -/
def delP (fr to : ByteArray) (x : Bo) : Bool := decide (cmpB x.u fr < 0) || (!to.toList.isEmpty && !decide (cmpB x.u to < 0))
attribute [local go_sem] Oper.semAt_some
set_option maxHeartbeats 1600000 in
theorem scan1_any (k : Int) (u val fr to : ByteArray) (b1 b2 : Nat) (W : World) (h1 : W.cell? ⟨b1, 0, none⟩ = some (.string fr)) (h2 : W.cell? ⟨b2, 0, none⟩ = some (.string to)) :
    Calls Try.prog 36 #[.agg #[.int .i64 k, .string u, .string val], .pointer (some ⟨b1, 0, none⟩), .pointer (some ⟨b2, 0, none⟩)] W fun e W' => e = .returned (.bool (delP fr to ⟨k, u, val⟩)) ∧ Below W.heap.size W W' := by
  have k1 : ∀ o, (W.alloc o).cell? ⟨b1, 0, none⟩ = some (.string fr) := fun o => by rw [World.cell?_alloc_lt W _ _ (block_lt_of_cell h1)]; exact h1
  have k2 : ∀ o, (W.alloc o).cell? ⟨b2, 0, none⟩ = some (.string to) := fun o => by rw [World.cell?_alloc_lt W _ _ (block_lt_of_cell h2)]; exact h2
  clear h1 h2
  by_cases hl : cmpB u fr < 0
  · have hlt : Op.bytesLess u.toList fr.toList = true := by rw [less_cmpB, decide_eq_true hl]
    go_enter Try.func36, Try.ntmps36
    go_wp2_with fail
    go_ret
    exact ⟨by unfold delP; rw [decide_eq_true hl]; rfl, (Below.refl _ _).alloc (Nat.le_refl _) _⟩
  · have hlt : Op.bytesLess u.toList fr.toList = false := by rw [less_cmpB, decide_eq_false hl]
    have Hl := Lib.hid (decide_eq_false hl)
    clear hl
    by_cases ht : to.toList = []
    · have Ht : Hid (to.toList.isEmpty = true) := Lib.hid (by rw [ht]; rfl)
      go_enter Try.func36, Try.ntmps36
      go_wp2_with fail
      go_ret
      exact ⟨by unfold delP; rw [Hl.out, Ht.out]; rfl, (Below.refl _ _).alloc (Nat.le_refl _) _⟩
    · have Ht : Hid (to.toList.isEmpty = false) := Lib.hid (by cases q : to.toList with | nil => exact absurd q ht | cons a l => rfl)
      have hg : Op.bytesLess u.toList to.toList = decide (cmpB u to < 0) := less_cmpB _ _
      go_enter Try.func36, Try.ntmps36
      go_wp2_with fail
      go_ret
      refine ⟨?_, (Below.refl _ _).alloc (Nat.le_refl _) _⟩
      unfold delP
      rw [Hl.out, Ht.out]
      rfl
theorem scan_no (mb : Nat) (fr to : ByteArray) (hh er n : Int) (w : World) (hat : ∀ A : World, Below w.heap.size w A → Calls Try.prog 30 #[.pointer (some ⟨mb, 0, none⟩), .int .i64 hh] A fun e w' => e = .returned (.tuple #[.int .i64 n, .int .i64 er]) ∧ A = w') (he : er ≠ 0) :
    Calls Try.prog 17 #[.pointer (some ⟨mb, 0, none⟩), .string fr, .string to, .int .i64 hh] w fun e w' => e = .returned (.tuple #[.slice none 0 0, .int .i64 er]) ∧ Below w.heap.size w w' := by
  have hb2 : Below w.heap.size w ((w.alloc (.cells #[.string fr] 9)).alloc (.cells #[.string to] 9)) := ((Below.refl _ _).alloc (Nat.le_refl _) _).alloc (by simp) _
  have Hat := Lib.hid (hat _ hb2)
  have Hb2 := Lib.hid hb2
  have h1 : (er != 0) = true := by simpa using he
  clear hat he hb2
  go_enter Try.func17, Try.ntmps17
  go_wp2_with fail
  refine Hat.out.mono ?_
  rintro e w' ⟨rfl, rfl⟩
  go_wp2_with fail
  go_ret2
  exact ⟨rfl, Hb2.out⟩
/-- what a scan tells -/
def ScanOut (F : FunO) (fr to : ByteArray) (w : World) (e : Ending) (w' : World) : Prop := ∃ v' ks, e = .returned (.tuple #[v', .int .i64 0]) ∧ KeysIs F ks ∧ ks.length ≤ 100000 ∧ w'.ownsRow w.heap.size 40 3 v' (leftB (delP fr to) (outO F ks)).length (flat Bo.cells (leftB (delP fr to) (outO F ks))) ∧ Below w.heap.size w w'
set_option maxHeartbeats 3200000 in
theorem scan_yes (mb : Nat) (fr to : ByteArray) (hh n : Int) (most last : Int) (a : Option Addr) (c : Nat) (rows : List Wr) (sm im : Nat) (hd : Int) (w : World) (hB : w.heap[mb]? = some (.cells (moC most last (.slice a rows.length c) sm im hd) 78 (0, 0))) (h : IsWs w (.slice a rows.length c) rows) (hl : rows.length ≤ 1000000)
    (hfl : (flatO rows (min n.toNat rows.length)).length ≤ 100000) (hsm : ∀ x ∈ flatO rows (min n.toNat rows.length), x.u.size ≤ 100000 ∧ x.v.size ≤ 100000)
    (hat : ∀ A : World, Below w.heap.size w A → Calls Try.prog 30 #[.pointer (some ⟨mb, 0, none⟩), .int .i64 hh] A fun e w' => e = .returned (.tuple #[.int .i64 n, .int .i64 0]) ∧ A = w') :
    Calls Try.prog 17 #[.pointer (some ⟨mb, 0, none⟩), .string fr, .string to, .int .i64 hh] w (ScanOut (foldF (flatO rows (min n.toNat rows.length))) fr to w) := by
  obtain ⟨W, hW⟩ : ∃ W, W = (w.alloc (.cells #[.string fr] 9)).alloc (.cells #[.string to] 9) := ⟨_, rfl⟩
  have hb2 : Below w.heap.size w W := by rw [hW]; exact ((Below.refl _ _).alloc (Nat.le_refl _) _).alloc (by simp) _
  have hk1 : W.heap[w.heap.size]? = some (.cells #[.string fr] 9 (0, 0)) := by rw [hW]; exact blk_old (blk_newF rfl _) _
  have hk2 : W.heap[w.heap.size + 1]? = some (.cells #[.string to] 9 (0, 0)) := by rw [hW]; exact blk_newF (by simp only [World.size_alloc]) _
  have hfo := fold_any mb n most last a c rows sm im hd W (blk_bels hb2 hB) (h.below hb2) hl hfl hsm
  obtain ⟨F, hF⟩ : ∃ F, F = foldF (flatO rows (min n.toNat rows.length)) := ⟨_, rfl⟩
  rw [← hF] at hfo ⊢
  have Hat := Lib.hid (hat W hb2)
  have Hfo := Lib.hid hfo
  have Hb2 := Lib.hid hb2
  have Hk1 := Lib.hid hk1
  have Hk2 := Lib.hid hk2
  have HW := Lib.hid hW
  clear hat hB h hl hfl hsm hF hfo hb2 hk1 hk2 hW
  go_enter Try.func17, Try.ntmps17
  go_wp2_with fail
  rw [← HW.out]
  refine Hat.out.mono ?_
  rintro e w' ⟨rfl, rfl⟩
  go_wp2_with fail
  refine Hfo.out.mono ?_
  rintro e V ⟨v', ks, rfl, hks, hkl, hown, hbV⟩
  have hol := outO_len F ks
  have hde := odelf_any 36 (.pointer (some ⟨w.heap.size, 0, none⟩)) (.pointer (some ⟨w.heap.size + 1, 0, none⟩)) (delP fr to) v' (outO F ks) V W.heap.size (by rw [hol]; exact hown) hbV.size (by rw [hol]; omega) (enters_of Try.func36 (by kernel_rfl) rfl)
    (fun k u val A hm hA => scan1_any k u val fr to w.heap.size (w.heap.size + 1) A (by rw [cell_of_blk (blk_bels (hbV.trans hA) Hk1.out)]; rfl) (by rw [cell_of_blk (blk_bels (hbV.trans hA) Hk2.out)]; rfl))
  have Hde := Lib.hid hde
  have Hks := Lib.hid hks
  have HbV := Lib.hid hbV
  have Hkl := Lib.hid hkl
  clear hol hde hks hbV hkl hown
  go_wp2_with fail
  refine Hde.out.mono ?_
  rintro e V2 ⟨v2, rfl, hown2, hbV2⟩
  have Ho2 := Lib.hid (own_mono hown2 Hb2.out.size)
  have Hb5 := Lib.hid (Hb2.out.trans ((HbV.out.trans hbV2).mono Hb2.out.size))
  clear hown2 hbV2
  go_wp2_with fail
  go_ret2
  exact ⟨v2, ks, rfl, Hks.out, Hkl.out, Ho2.out, Hb5.out⟩
end Go.Proofs.Ytbnodgoccmhjkaa.Tithe
