/- Iter: walked. -/
import Derived.Test.YtbnodgoccmhjkaaFlatSnap
import Derived.Test.YtbnodgoccmhjkaaFlatWith
namespace Go.Proofs.Ytbnodgoccmhjkaa.Tithe
open Go.RowKit Go.Sort Go.Shelf
set_option linter.unusedVariables false
set_option linter.unusedSimpArgs false
set_option maxRecDepth 100000
attribute [local go_sem] Oper.semAt_some
theorem iter_no {W : World} {mb : Nat} (hh n er : Int) (hat : ∀ A : World, Below W.heap.size W A → Calls Try.prog 30 #[.pointer (some ⟨mb, 0, none⟩), .int .i64 hh] A fun e w' => e = .returned (.tuple #[.int .i64 n, .int .i64 er]) ∧ A = w') (he : er ≠ 0) :
    Calls Try.prog 19 #[.pointer (some ⟨mb, 0, none⟩), .int .i64 hh] W fun e W' => e = .returned (.tuple #[.int .i64 0, .int .i64 er]) ∧ Below W.heap.size W W' := by
  have Hsc := Lib.hid (scan_no mb ⟨#[]⟩ ⟨#[]⟩ hh er n W hat he)
  have h1 : (er != 0) = true := by simpa using he
  clear hat he
  go_enter Try.func19, Try.ntmps19
  go_wp2_with fail
  refine Hsc.out.mono ?_
  rintro e w' ⟨rfl, hb⟩
  go_wp2_with fail
  go_ret2
  exact ⟨rfl, hb⟩
/-- what is left of a scan of everything -/
theorem left_all (l : List Bo) : leftB (delP ⟨#[]⟩ ⟨#[]⟩) l = l := by
  unfold leftB
  rw [List.filter_eq_self]
  intro x hx
  have : ¬ cmpB x.u ⟨#[]⟩ < 0 := by
    unfold cmpB
    rw [cb_lt]
    exact List.not_lt_nil _
  unfold delP
  rw [decide_eq_false this, toList_eq (⟨#[]⟩ : ByteArray)]
  rfl
section
variable {W : World} {lo base mb : Nat} {most : Int} {rows : List Wr} {sm im hd : Nat} {S : Int → Option Int} {zs : Nat} {P : Int → Option Nat} {zi : Nat} {L : Nat → List Bo} {A : Nat → Int}

/-- one more iterator -/
def updW (L : Nat → List Bo) (b : Nat) (l : List Bo) : Nat → List Bo := fun q => if q = b then l else L q
def updA (A : Nat → Int) (b : Nat) (p : Int) : Nat → Int := fun q => if q = b then p else A q
end
set_option maxHeartbeats 3200000 in
theorem iter_full {W : World} {lo base mb : Nat} {most : Int} {rows : List Wr} {sm im hd : Nat} {S : Int → Option Int} {zs : Nat} {P : Int → Option Nat} {zi : Nat} {L : Nat → List Bo} {A : Nat → Int} (h : MS W lo base mb most rows sm im hd S zs P zi L A) (hz : 16 ≤ zi) (hh n : Int) (F : FunO) (hsc : Calls Try.prog 17 #[.pointer (some ⟨mb, 0, none⟩), .string ⟨#[]⟩, .string ⟨#[]⟩, .int .i64 hh] W (ScanOut F ⟨#[]⟩ ⟨#[]⟩ W)) :
    Calls Try.prog 19 #[.pointer (some ⟨mb, 0, none⟩), .int .i64 hh] W fun e W' => e = .returned (.tuple #[.int .i64 0, .int .i64 202]) ∧ Below W.heap.size W W' := by
  have Hsc := Lib.hid hsc
  have H := Lib.hid h
  have hz2 : (16 : Int) ≤ (zi : Int) := by omega
  clear h hsc
  go_enter Try.func19, Try.ntmps19
  go_wp2_with fail
  refine Hsc.out.mono ?_
  rintro e V ⟨v', ks, rfl, hks, hkl, hown, hb⟩
  have h := H.out.bel hb
  obtain ⟨a, c, hB, -⟩ := h.mo.ex
  have m4 := (cell_of_blk hB 4).trans (show _ = some (.map (some im)) from rfl)
  have hlen : (Builtin.len_ #[76] 3 #[.map (some im)]).run Try.prog V = .ok (.int .i64 zi) V := h.itr.len 3
  have Hb := Lib.hid hb
  clear hks hkl hown hb h hB
  go_wp2_with fail
  go_ret2
  exact ⟨rfl, Hb.out⟩
def IterOut (W : World) (lo base mb : Nat) (most : Int) (rows : List Wr) (sm im hd : Nat) (S : Int → Option Int) (zs : Nat) (P : Int → Option Nat) (zi : Nat) (L : Nat → List Bo) (A : Nat → Int) (F : FunO) (e : Ending) (W' : World) : Prop := ∃ b ks, e = .returned (.tuple #[.int .i64 ((hd + 1 : Nat) : Int), .int .i64 0]) ∧ KeysIs F ks ∧ ks.length ≤ 100000 ∧ (∀ q, P q ≠ some b) ∧
  MS W' lo base mb most rows sm im (hd + 1) S zs (updF P ((hd + 1 : Nat) : Int) (some b)) (zi + 1) (updW L b (outO F ks)) (updA A b (-1)) ∧ KeepN sm im W W' ∧ Below lo W W'
set_option maxHeartbeats 3200000 in
theorem iter_yes {W : World} {lo base mb : Nat} {most : Int} {rows : List Wr} {sm im hd : Nat} {S : Int → Option Int} {zs : Nat} {P : Int → Option Nat} {zi : Nat} {L : Nat → List Bo} {A : Nat → Int} (h : MS W lo base mb most rows sm im hd S zs P zi L A) (hz : zi < 16) (hd1 : hd ≤ 100000) (hlo : lo ≤ W.heap.size) (hh n : Int) (F : FunO) (hsc : Calls Try.prog 17 #[.pointer (some ⟨mb, 0, none⟩), .string ⟨#[]⟩, .string ⟨#[]⟩, .int .i64 hh] W (ScanOut F ⟨#[]⟩ ⟨#[]⟩ W)) :
    Calls Try.prog 19 #[.pointer (some ⟨mb, 0, none⟩), .int .i64 hh] W (IterOut W lo base mb most rows sm im hd S zs P zi L A F) := by
  have Hsc := Lib.hid hsc
  have H0 := Lib.hid h
  have Hlo := Lib.hid hlo
  have hz2 : ¬ (16 : Int) ≤ (zi : Int) := by omega
  clear h hsc hlo
  go_enter Try.func19, Try.ntmps19
  go_wp2_with fail
  refine Hsc.out.mono ?_
  rintro e V ⟨v', ks, rfl, hks, hkl, hown, hb⟩
  rw [left_all, outO_len] at hown
  obtain ⟨va, vc, hve⟩ := own_slice hown
  obtain ⟨kn, hkn⟩ : ∃ q, q = ks.length := ⟨_, rfl⟩
  rw [← hkn] at hve
  subst hve
  clear hkn
  have H := Lib.hid (H0.out.bel hb)
  have Hrow : Hid (OwnO V (.slice va kn vc) (outO F ks)) := Lib.hid (by unfold OwnO; rw [outO_len]; exact own_mono hown (Nat.zero_le _))
  have Hb := Lib.hid hb
  have Hks := Lib.hid hks
  have Hkl := Lib.hid hkl
  obtain ⟨a, c, hB, -⟩ := H.out.mo.ex
  have HB := Lib.hid hB
  have m4 := (cell_of_blk hB 4).trans (show _ = some (.map (some im)) from rfl)
  have m5 := (cell_of_blk hB 5).trans (show _ = some (.int .i64 (hd : Int)) from rfl)
  have z5 := frozen_of_blk hB 5
  have hlen : (Builtin.len_ #[76] 3 #[.map (some im)]).run Try.prog V = .ok (.int .i64 zi) V := H.out.itr.len 3
  have Hlo2 := Lib.hid (Nat.le_trans Hlo.out hb.size)
  clear hks hkl hown hb hB H0 Hsc
  go_upto_region 7 with fail
  have HB1 : Hid ((V.setCell ⟨mb, 5, none⟩ (.int .i64 ((hd : Int) + 1))).heap[mb]? = some (.cells (moC most (lastN rows : Nat) (.slice a rows.length c) sm im ((hd : Int) + 1)) 78 (0, 0))) := Lib.hid ((blk_set HB.out).trans rfl)
  have HMo1 := Lib.hid (H.out.mo.set5 ((hd : Int) + 1))
  have hnes : sm ≠ mb := fun e => by
    obtain ⟨es, ck, hm⟩ := H.out.sn.map
    rw [e, HB.out] at hm
    cases hm
  have hnei : im ≠ mb := fun e => by
    obtain ⟨es, ck, hm⟩ := H.out.itr.map
    rw [e, HB.out] at hm
    cases hm
  have HS1 : Hid (OwnsF snT (V.setCell ⟨mb, 5, none⟩ (.int .i64 ((hd : Int) + 1))) sm S zs) := Lib.hid (H.out.sn.of_blk (Below.heap_setCell _ ⟨mb, 5, none⟩ _ sm hnes))
  have HI1 : Hid (OwnsF itT (V.setCell ⟨mb, 5, none⟩ (.int .i64 ((hd : Int) + 1))) im P zi) := Lib.hid (H.out.itr.of_blk (Below.heap_setCell _ ⟨mb, 5, none⟩ _ im hnei))
  have HKf : Hid (KeepN sm im W (V.setCell ⟨mb, 5, none⟩ (.int .i64 ((hd : Int) + 1)))) := Lib.hid ((KeepN.of_below Hb.out).trans (KeepN.of_keepM (KeepM.set HB.out)))
  have HBl : Hid (Below lo W (V.setCell ⟨mb, 5, none⟩ (.int .i64 ((hd : Int) + 1)))) := Lib.hid ((Hb.out.mono Hlo.out).trans ((Below.refl _ _).setCell (p := ⟨mb, 5, none⟩) H.out.lom _))
  have HKw : Hid (KeptTy 85 V (V.setCell ⟨mb, 5, none⟩ (.int .i64 ((hd : Int) + 1)))) := Lib.hid (KeptTy.set HB.out (by decide))
  have HKo : Hid (KeptTy 40 V (V.setCell ⟨mb, 5, none⟩ (.int .i64 ((hd : Int) + 1)))) := Lib.hid (KeptTy.set HB.out (by decide))
  have Hsz : Hid ((V.setCell ⟨mb, 5, none⟩ (.int .i64 ((hd : Int) + 1))).heap.size = V.heap.size) := Lib.hid (by rw [World.size_setCell])
  have Hnei := Lib.hid hnei
  generalize V.setCell ⟨mb, 5, none⟩ (.int .i64 ((hd : Int) + 1)) = W1 at *
  have n4 := (cell_of_blk HB1.out 4).trans (show _ = some (.map (some im)) from rfl)
  have n5 := (cell_of_blk HB1.out 5).trans (show _ = some (.int .i64 ((hd : Int) + 1)) from rfl)
  have hlo1 : lo ≤ W1.heap.size := by rw [Hsz.out]; exact Hlo2.out
  have hpn : P ((hd : Int) + 1) = none := by
    cases q : P ((hd : Int) + 1) with
    | none => rfl
    | some m => have := (H.out.wk _ _ q).2.2; omega
  clear m4 m5 z5 hlen hnes hnei
  obtain ⟨wb, hwb⟩ : ∃ q, q = W1.heap.size := ⟨_, rfl⟩
  obtain ⟨W2, hW2⟩ : ∃ q, q = W1.drew.alloc (.cells #[.slice va kn vc, .int .i64 (-1)] 85) := ⟨_, rfl⟩
  have hb12 : Below W1.heap.size W1 W2 := by rw [hW2]; exact ((Below.refl _ _).drew).alloc (Nat.le_refl _) _
  have hWB : W2.heap[wb]? = some (.cells #[.slice va kn vc, .int .i64 (-1)] 85 (0, 0)) := by rw [hW2]; exact blk_newF (by rw [hwb]; rfl) _
  obtain ⟨W3, hput, hI3, hg3⟩ := (HI1.out.below hb12).put ((hd : Int) + 1) wb (WalkArith.wf_i64 (by omega)) trivial (by unfold maxLen; omega)
  rw [hpn] at hI3
  have hI3' : OwnsF itT W3 im (updF P ((hd : Int) + 1) (some wb)) (zi + 1) := hI3
  have hmap := (HI1.out.below hb12).map
  have hbl3 : Below lo W W3 := (HBl.out.trans (hb12.mono hlo1)).trans (grown_below hg3 H.out.loi (Nat.le_trans hlo1 hb12.size))
  have hmo3 := (HMo1.out.bel hb12).ty (KeptTy.map hg3 hmap) (KeptTy.map hg3 hmap) (KeptTy.map hg3 hmap) hg3.size
  have hke3 := (HKf.out.trans (KeepN.of_below hb12)).trans (KeepN.map (sm := sm) hg3 hmap (.inr rfl))
  have hsn3 : OwnsF snT W3 sm S zs := (HS1.out.below hb12).other hg3 (fun e => H.out.ne (by injection e with e; exact e.symm))
  have hwne : ∀ q b, P q = some b → b ≠ wb := fun q b hq e => by
    obtain ⟨⟨v, hv, -⟩, -, -⟩ := H.out.wk q b hq
    have := blk_lt hv
    rw [e, hwb, Hsz.out] at this
    omega
  have hwk3 : ∀ h b, updF P ((hd : Int) + 1) (some wb) h = some b → WalkAt W3 b (updW L wb (outO F ks) b) (updA A wb (-1) b) ∧ lo ≤ b ∧ h ≤ ((hd + 1 : Nat) : Int) := fun q b hq => by
    unfold updF at hq
    split at hq
    · injection hq with hq
      subst hq
      unfold updW updA
      rw [if_pos rfl, if_pos rfl]
      refine ⟨⟨_, KeptTy.map hg3 hmap _ _ _ hWB, ?_⟩, by rw [hwb]; exact hlo1, by omega⟩
      have h1 : OwnO W1 (.slice va kn vc) (outO F ks) := own_for Hrow.out HKo.out
      exact own_for (own_below h1 hb12) (KeptTy.map hg3 hmap)
    · obtain ⟨g1, g2, g3⟩ := H.out.wk q b hq
      unfold updW updA
      rw [if_neg (hwne q b hq), if_neg (hwne q b hq)]
      exact ⟨(((g1.ty HKw.out HKo.out).for (KeptFor.of_below (sm := sm) (im := im) hb12)).ty (KeptTy.map hg3 hmap) (KeptTy.map hg3 hmap)), g2, by omega⟩
  have hsh3 : ∀ h n, S h = some n → h ≤ ((hd + 1 : Nat) : Int) := fun q n hq => by have := H.out.sh q n hq; omega
  have hinj3 : ∀ h h' b, updF P ((hd : Int) + 1) (some wb) h = some b → updF P ((hd : Int) + 1) (some wb) h' = some b → h = h' := fun q q' b h1 h2 => by
    unfold updF at h1 h2
    split at h1 <;> split at h2
    · omega
    · injection h1 with h1; exact absurd h1.symm (hwne _ _ h2)
    · injection h2 with h2; exact absurd h2.symm (hwne _ _ h1)
    · exact H.out.inj _ _ _ h1 h2
  have HMS3 : Hid (MS W3 lo base mb most rows sm im (hd + 1) S zs (updF P ((hd + 1 : Nat) : Int) (some wb)) (zi + 1) (updW L wb (outO F ks)) (updA A wb (-1))) := Lib.hid ⟨hmo3, hsn3, hI3', H.out.ne, H.out.los, H.out.loi, H.out.lom, hwk3, hsh3, hinj3⟩
  have Hke3 := Lib.hid hke3
  have Hbl3 := Lib.hid hbl3
  have Hpw : Hid (∀ q, P q ≠ some wb) := Lib.hid (fun q hq => hwne q wb hq rfl)
  have HB3 : Hid (W3.heap[mb]? = some (.cells (moC most (lastN rows : Nat) (.slice a rows.length c) sm im ((hd : Int) + 1)) 78 (0, 0))) := Lib.hid (KeptTy.map hg3 hmap _ _ _ (blk_bels hb12 HB1.out))
  have Hb13 : Hid (Below lo W1 W3) := Lib.hid ((hb12.mono hlo1).trans (grown_below hg3 H.out.loi (Nat.le_trans hlo1 hb12.size)))
  have Hlo1 := Lib.hid hlo1
  rw [hW2, hwb] at hput
  have hput2 : (Instr.mapUpdate 76 (.map (some im)) (.int .i64 ((hd : Int) + 1)) (.pointer (some ⟨W1.heap.size, 0, none⟩))).run Try.prog (W1.alloc (.cells #[.slice va kn vc, .int .i64 (-1)] 85)).drew = .ok () W3 := hput
  clear hput hpn hb12 hWB hI3 hI3' hg3 hmap hbl3 hmo3 hke3 hsn3 hwne hwk3 hsh3 hinj3 hlo1 hW2 hwb HMo1 HS1 HI1 HKf HBl HKw HKo Hnei
  refine wp_region_held_drew (S := fun V' => Hid (V'.heap[mb]? = some (.cells (moC most (lastN rows : Nat) (.slice a rows.length c) sm im ((hd : Int) + 1)) 78 (0, 0)) ∧ Below lo W1 V')) (by kernel_rfl) (Lib.hid ⟨HB1.out, (Below.refl _ _).drew⟩) (fun hS0 => ?_)
  refine wpAnyH_take (i := 0) (oi := { dst := some 32, op := Op.move (Operand.tmp 0), type := 25, pos := "flat.go:170", after := #[], guard := none }) (v := ?_) rfl (by kernel_rfl) (by kernel_rfl) (by kernel_rfl) (fun _ _ _ h => h) (Or.inl ⟨by rfl, ?hy1⟩) hS0 ?_
  case hy1 => (intro V hSw; (try dsimp only at hSw); clear hSw; go_simp; try with_reducible rfl)
  try simp only [Act.put, List.setIfInBounds_toArray, List.set_cons_zero, List.set_cons_succ]
  refine wpAnyH_take (i := 1) (oi := { dst := some 33, op := Op.nilCheck (Operand.tmp 32), type := 0, pos := "flat.go:170", after := #[{ on := 0, ground := Ground.data }], guard := none }) (v := ?_) rfl (by kernel_rfl) (by kernel_rfl) (by kernel_rfl) (fun _ _ _ h => h) (Or.inl ⟨by rfl, ?hy2⟩) hS0 ?_
  case hy2 => (intro V hSw; (try dsimp only at hSw); clear hSw; go_simp; try with_reducible rfl)
  try simp only [Act.put, List.setIfInBounds_toArray, List.set_cons_zero, List.set_cons_succ]
  refine wpAnyH_take (i := 2) (oi := { dst := some 34, op := Op.fieldAddr 78 (Operand.tmp 33) 4, type := 0, pos := "flat.go:170", after := #[{ on := 1, ground := Ground.data }], guard := none }) (v := ?_) rfl (by kernel_rfl) (by kernel_rfl) (by kernel_rfl) (fun _ _ _ h => h) (Or.inl ⟨by rfl, ?hy3⟩) hS0 ?_
  case hy3 => (intro V hSw; (try dsimp only at hSw); clear hSw; go_simp; try with_reducible rfl)
  try simp only [Act.put, List.setIfInBounds_toArray, List.set_cons_zero, List.set_cons_succ]
  refine wpAnyH_take (i := 3) (oi := { dst := some 35, op := Op.load 76 (Operand.tmp 34), type := 76, pos := "flat.go:170", after := #[{ on := 2, ground := Ground.data }], guard := none }) (v := ?_) rfl (by kernel_rfl) (by kernel_rfl) (by kernel_rfl) (fun _ _ _ h => h) (Or.inl ⟨by rfl, ?hy4⟩) hS0 ?_
  case hy4 => (intro V hSw; (try dsimp only at hSw); have q4 := (cell_of_blk hSw.out.1 4).trans (show _ = some (.map (some im)) from rfl); have q5 := (cell_of_blk hSw.out.1 5).trans (show _ = some (.int .i64 ((hd : Int) + 1)) from rfl); clear hSw; go_simp; try with_reducible rfl)
  try simp only [Act.put, List.setIfInBounds_toArray, List.set_cons_zero, List.set_cons_succ]
  refine wpAnyH_take (i := 4) (oi := { dst := some 36, op := Op.move (Operand.tmp 0), type := 25, pos := "flat.go:170", after := #[], guard := none }) (v := ?_) rfl (by kernel_rfl) (by kernel_rfl) (by kernel_rfl) (fun _ _ _ h => h) (Or.inl ⟨by rfl, ?hy5⟩) hS0 ?_
  case hy5 => (intro V hSw; (try dsimp only at hSw); clear hSw; go_simp; try with_reducible rfl)
  try simp only [Act.put, List.setIfInBounds_toArray, List.set_cons_zero, List.set_cons_succ]
  refine wpAnyH_take (i := 5) (oi := { dst := some 37, op := Op.nilCheck (Operand.tmp 36), type := 0, pos := "flat.go:170", after := #[{ on := 4, ground := Ground.data }], guard := none }) (v := ?_) rfl (by kernel_rfl) (by kernel_rfl) (by kernel_rfl) (fun _ _ _ h => h) (Or.inl ⟨by rfl, ?hy6⟩) hS0 ?_
  case hy6 => (intro V hSw; (try dsimp only at hSw); clear hSw; go_simp; try with_reducible rfl)
  try simp only [Act.put, List.setIfInBounds_toArray, List.set_cons_zero, List.set_cons_succ]
  refine wpAnyH_take (i := 6) (oi := { dst := some 38, op := Op.fieldAddr 78 (Operand.tmp 37) 5, type := 0, pos := "flat.go:170", after := #[{ on := 5, ground := Ground.data }], guard := none }) (v := ?_) rfl (by kernel_rfl) (by kernel_rfl) (by kernel_rfl) (fun _ _ _ h => h) (Or.inl ⟨by rfl, ?hy7⟩) hS0 ?_
  case hy7 => (intro V hSw; (try dsimp only at hSw); clear hSw; go_simp; try with_reducible rfl)
  try simp only [Act.put, List.setIfInBounds_toArray, List.set_cons_zero, List.set_cons_succ]
  refine wpAnyH_take (i := 7) (oi := { dst := some 39, op := Op.load 3 (Operand.tmp 38), type := 3, pos := "flat.go:170", after := #[{ on := 6, ground := Ground.data }], guard := none }) (v := ?_) rfl (by kernel_rfl) (by kernel_rfl) (by kernel_rfl) (fun _ _ _ h => h) (Or.inl ⟨by rfl, ?hy8⟩) hS0 ?_
  case hy8 => (intro V hSw; (try dsimp only at hSw); have q4 := (cell_of_blk hSw.out.1 4).trans (show _ = some (.map (some im)) from rfl); have q5 := (cell_of_blk hSw.out.1 5).trans (show _ = some (.int .i64 ((hd : Int) + 1)) from rfl); clear hSw; go_simp; try with_reducible rfl)
  try simp only [Act.put, List.setIfInBounds_toArray, List.set_cons_zero, List.set_cons_succ]
  refine wpAnyH_take (i := 8) (oi := { dst := some 40, op := Op.move (Operand.tmp 6), type := 37, pos := "flat.go:170", after := #[], guard := none }) (v := ?_) rfl (by kernel_rfl) (by kernel_rfl) (by kernel_rfl) (fun _ _ _ h => h) (Or.inl ⟨by rfl, ?hy9⟩) hS0 ?_
  case hy9 => (intro V hSw; (try dsimp only at hSw); clear hSw; go_simp; try with_reducible rfl)
  try simp only [Act.put, List.setIfInBounds_toArray, List.set_cons_zero, List.set_cons_succ]
  refine wpAnyH_take (i := 9) (oi := { dst := some 41, op := Op.build 85 #[(0, Operand.tmp 40), (1, Operand.const (Value.int IntKind.i64 (-1)))], type := 85, pos := "flat.go:170", after := #[{ on := 8, ground := Ground.data }], guard := none }) (v := ?_) rfl (by kernel_rfl) (by kernel_rfl) (by kernel_rfl) (fun _ _ _ h => h) (Or.inl ⟨by rfl, ?hy10⟩) hS0 ?_
  case hy10 => (intro V hSw; (try dsimp only at hSw); clear hSw; go_simp; try with_reducible rfl)
  try simp only [Act.put, List.setIfInBounds_toArray, List.set_cons_zero, List.set_cons_succ]
  refine wpAnyH_ready (rs := [10]) (by kernel_rfl) (by simp) (AllReadyH.cons rfl (fun K hK => ?_) AllReadyH.nil)
  have hS11 := Lib.hid (And.intro (blk_old hS0.out.1 (.cells #[.slice va kn vc, .int .i64 (-1)] 85)) (hS0.out.2.alloc (Nat.le_trans Hlo1.out hS0.out.2.size) (.cells #[.slice va kn vc, .int .i64 (-1)] 85)))
  go_simp
  refine hK.out _ _ hS11 (fun _ => ?_)
  clear hK K
  try simp only [Act.put, List.setIfInBounds_toArray, List.set_cons_zero, List.set_cons_succ]
  refine wpAnyH_ready (rs := [11]) (by kernel_rfl) (by simp) (AllReadyH.cons rfl (fun K hK => ?_) AllReadyH.nil)
  have hS12 := Lib.hid (And.intro HB3.out Hb13.out)
  go_simp
  refine hK.out _ _ hS12 (fun _ => ?_)
  clear hK K
  try simp only [Act.put, List.setIfInBounds_toArray, List.set_cons_zero, List.set_cons_succ]
  refine wpAnyH_done (by kernel_rfl) ?_ _
  clear n4 n5 hput2
  have k5 := (cell_of_blk HB3.out 5).trans (show _ = some (.int .i64 ((hd : Int) + 1)) from rfl)
  go_wp2_with fail
  go_ret2
  exact ⟨_, ks, rfl, Hks.out, Hkl.out, Hpw.out, HMS3.out, Hke3.out, Hbl3.out⟩
end Go.Proofs.Ytbnodgoccmhjkaa.Tithe
