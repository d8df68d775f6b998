/- Move: walked (printed by mkmove.py). -/
import Derived.Test.YtbnodgoccmhjkaaFlatIterC
namespace Go.Proofs.Ytbnodgoccmhjkaa.Tithe
open Go.RowKit Go.Sort Go.Shelf
set_option linter.unusedVariables false
set_option linter.unusedSimpArgs false
set_option maxRecDepth 100000
def geP (key : ByteArray) (x : Bo) : Bool := !decide (cmpB x.u key < 0)
/-- where a move leads, before it is looked whether that is a place -/
def mvQ (l : List Bo) (how p : Int) (key : ByteArray) : Int := if how = 1 then 0 else if how = 2 then (l.length : Int) - 1 else if how = 3 then (if p = -1 then -1 else p + 1) else if how = 4 then (if p = -1 then -1 else p - 1) else idxO l (geP key)
def mvIn (l : List Bo) (q : Int) : Bool := decide (0 ≤ q) && decide (q < (l.length : Int))
def mvP (l : List Bo) (q : Int) : Int := if mvIn l q then q else -1
def mvX (l : List Bo) (q : Int) : Bo := if mvIn l q then l.getD q.toNat Bo.nil else Bo.nil
theorem mv_out {l : List Bo} {q : Int} (h : q < 0 ∨ (l.length : Int) ≤ q) : mvIn l q = false ∧ mvP l q = -1 ∧ mvX l q = Bo.nil := by
  have h1 : mvIn l q = false := by
    unfold mvIn
    rcases h with h | h
    · rw [decide_eq_false (by omega)]; rfl
    · rw [decide_eq_false (p := q < (l.length : Int)) (by omega), Bool.and_false]
  unfold mvP mvX
  rw [h1]
  exact ⟨rfl, rfl, rfl⟩
theorem mv_in {l : List Bo} {i : Nat} {x : Bo} (h : l[i]? = some x) : mvIn l (i : Int) = true ∧ mvP l (i : Int) = (i : Int) ∧ mvX l (i : Int) = x := by
  have hl := (List.getElem?_eq_some_iff.1 h).1
  have h1 : mvIn l (i : Int) = true := by
    unfold mvIn
    rw [decide_eq_true (p := (0 : Int) ≤ (i : Int)) (by omega), decide_eq_true (by omega)]; rfl
  unfold mvP mvX
  rw [h1, if_pos rfl, if_pos rfl, Int.toNat_natCast, List.getD_eq_getElem?_getD, h]
  exact ⟨rfl, rfl, rfl⟩
def MoveOut (W : World) (lo base mb : Nat) (most : Int) (rows : List Wr) (sm im hd : Nat) (S : Int → Option Int) (zs : Nat) (P : Int → Option Nat) (zi : Nat) (L : Nat → List Bo) (A : Nat → Int) (b : Nat) (q : Int) (e : Ending) (W' : World) : Prop :=
  e = .returned (.tuple #[.agg #[.int .i64 (mvX (L b) q).k, .string (mvX (L b) q).u, .string (mvX (L b) q).v], .bool (mvIn (L b) q), .int .i64 0]) ∧ MS W' lo base mb most rows sm im hd S zs P zi L (updA A b (mvP (L b) q)) ∧ KeepN sm im W W' ∧ Below lo W W' ∧ W.grownBy W' (some b) ∧ ∀ v p, W.heap[b]? = some (.cells #[v, .int .i64 p] 85 (0, 0)) → W'.heap[b]? = some (.cells #[v, .int .i64 (mvP (L b) q)] 85 (0, 0))
theorem grown_newset {W V : World} {b g i : Nat} {x : Value} (h : W.grownBy V (some b)) (hg : W.heap.size ≤ g) : W.grownBy (V.setCell ⟨g, i, none⟩ x) (some b) :=
  ⟨h.os, h.tape, h.output, by rw [World.size_setCell]; exact h.size, fun k hk hn => (Below.heap_setCell V ⟨g, i, none⟩ x k (fun e => by have e2 : k = g := e; omega)).trans (h.block k hk hn)⟩
theorem grown_atset {W V : World} {b i : Nat} {x : Value} (h : W.grownBy V (some b)) : W.grownBy (V.setCell ⟨b, i, none⟩ x) (some b) :=
  ⟨h.os, h.tape, h.output, by rw [World.size_setCell]; exact h.size, fun k hk hn => (Below.heap_setCell V ⟨b, i, none⟩ x k (fun e => hn (by have e2 : k = b := e; rw [e2]))).trans (h.block k hk hn)⟩
theorem grown_drewB {W V : World} {b : Nat} (h : W.grownBy V (some b)) : W.grownBy V.drew (some b) := ⟨h.os, h.tape, h.output, h.size, h.block⟩
theorem grown_more {W V V' : World} {b : Nat} (h : W.grownBy V (some b)) (h2 : Below V.heap.size V V') : W.grownBy V' (some b) :=
  ⟨h2.os.trans h.os, h2.tape.trans h.tape, h2.output.trans h.output, Nat.le_trans h.size h2.size, fun k hk hn => (h2.block k (Nat.lt_of_lt_of_le hk h.size)).trans (h.block k hk hn)⟩
/-- one iterator has moved -/
theorem MS.moved {W : World} {lo base mb : Nat} {most : Int} {rows : List Wr} {sm im hd : Nat} {S : Int → Option Int} {zs : Nat} {P : Int → Option Nat} {zi : Nat} {L : Nat → List Bo} {A : Nat → Int} (h : MS W lo base mb most rows sm im hd S zs P zi L A) {U : World} {hh : Int} {b : Nat} (hP : P hh = some b) {v : Value} {p p' : Int} (hv : W.heap[b]? = some (.cells #[v, .int .i64 p] 85 (0, 0))) (hg : W.grownBy U (some b)) (hb : U.heap[b]? = some (.cells #[v, .int .i64 p'] 85 (0, 0))) :
    MS U lo base mb most rows sm im hd S zs P zi L (updA A b p') := by
  have kt : ∀ T : TypeId, T ≠ 85 → KeptTy T W U := fun T hT q cs fr hq => by
    refine (hg.block q (blk_lt hq) (fun e => ?_)).trans hq
    injection e with e
    subst e
    rw [hv] at hq
    injection hq with hq
    injection hq with _ hq _
    exact hT hq.symm
  have km : ∀ q, (∃ es ck, W.heap[q]? = some (.map es ck)) → some b ≠ some q := fun q hq e => by
    injection e with e
    subst e
    obtain ⟨es, ck, hm⟩ := hq
    rw [hv] at hm
    cases hm
  refine ⟨h.mo.ty (kt _ (by decide)) (kt _ (by decide)) (kt _ (by decide)) hg.size, h.sn.other hg (km _ h.sn.map), h.itr.other hg (km _ h.itr.map), h.ne, h.los, h.loi, h.lom, fun k c hk => ?_, h.sh, h.inj⟩
  obtain ⟨⟨vc, h1, h2⟩, h3, h4⟩ := h.wk k c hk
  unfold updA
  by_cases e : c = b
  · subst e
    rw [if_pos rfl]
    rw [hv] at h1
    injection h1 with h1
    injection h1 with h1 _ _
    have e0 : v = vc := by
      have := congrArg (·[0]?) h1
      simpa using this
    exact ⟨⟨v, hb, own_for (by rw [e0]; exact h2) (kt _ (by decide))⟩, h3, h4⟩
  · rw [if_neg e]
    exact ⟨⟨vc, (hg.block c (blk_lt h1) (fun q => e (by injection q))).trans h1, own_for h2 (kt _ (by decide))⟩, h3, h4⟩
theorem KeepN.walk {sm im : Nat} {W U : World} {b : Nat} {cs : Array Value} (hv : W.heap[b]? = some (.cells cs 85 (0, 0))) (hg : W.grownBy U (some b)) : KeepN sm im W U := fun q o hq _ _ h3 _ => by
  refine (hg.block q (blk_lt hq) (fun e => ?_)).trans hq
  injection e with e
  subst e
  rw [hv] at hq
  injection hq with hq
  exact h3 _ _ hq.symm
attribute [local go_sem] Oper.semAt_some
set_option maxHeartbeats 1600000 in
theorem move1_any (k : Int) (u val key : ByteArray) (b1 : Nat) (W : World) (h1 : W.cell? ⟨b1, 0, none⟩ = some (.string key)) :
    Calls Try.prog 39 #[.agg #[.int .i64 k, .string u, .string val], .pointer (some ⟨b1, 0, none⟩)] W fun e W' => e = .returned (.bool (geP key ⟨k, u, val⟩)) ∧ Below W.heap.size W W' := by
  have k1 : ∀ o, (W.alloc o).cell? ⟨b1, 0, none⟩ = some (.string key) := fun o => by rw [World.cell?_alloc_lt W _ _ (block_lt_of_cell h1)]; exact h1
  have hg : Op.bytesLess u.toList key.toList = decide (cmpB u key < 0) := less_cmpB _ _
  clear h1
  go_enter Try.func39, Try.ntmps39
  go_wp2_with fail
  go_ret
  exact ⟨rfl, (Below.refl _ _).alloc (Nat.le_refl _) _⟩
theorem move_no {W : World} {lo base mb : Nat} {most : Int} {rows : List Wr} {sm im hd : Nat} {S : Int → Option Int} {zs : Nat} {P : Int → Option Nat} {zi : Nat} {L : Nat → List Bo} {A : Nat → Int} (h : MS W lo base mb most rows sm im hd S zs P zi L A) (hh how : Int) (key : ByteArray) (hw : (Lit.int .i64 hh).wf = true) (hP : P hh = none) :
    Calls Try.prog 21 #[.pointer (some ⟨mb, 0, none⟩), .int .i64 hh, .int .i64 how, .string key] W fun e W' => e = .returned (.tuple #[.agg #[.int .i64 0, .string ⟨#[]⟩, .string ⟨#[]⟩], .bool false, .int .i64 203]) ∧ Below W.heap.size W W' := by
  obtain ⟨V, hV⟩ : ∃ V, V = (W.alloc (.cells #[.string key] 9)).alloc (.cells #[.int .i64 0, .string ⟨#[]⟩, .string ⟨#[]⟩] 40) := ⟨_, rfl⟩
  have hb : Below W.heap.size W V := by rw [hV]; exact ((Below.refl _ _).alloc (Nat.le_refl _) _).alloc (by simp) _
  have h2 := h.bel hb
  obtain ⟨a, c, hB, -⟩ := h2.mo.ex
  have m4 := (cell_of_blk hB 4).trans (show _ = some (.map (some im)) from rfl)
  have hl := h2.itr.look hh hw
  rw [hP] at hl
  have hlk : (Instr.lookup 76 (.map (some im)) (.int .i64 hh) false).run Try.prog V = .ok (.pointer none) V := hl
  have hz : V.heap[W.heap.size + 1]? = some (.cells #[.int .i64 0, .string ⟨#[]⟩, .string ⟨#[]⟩] 40 (0, 0)) := by rw [hV]; exact blk_newF (by simp only [World.size_alloc]) _
  have HV := Lib.hid hV
  have HZ := Lib.hid hz
  have Hb := Lib.hid hb
  clear h h2 hB hl hV hz hb
  go_enter Try.func21, Try.ntmps21
  go_upto_region 1 with fail
  rw [← HV.out]
  have z0 := (cell_of_blk HZ.out 0).trans (show _ = some (.int .i64 0) from rfl)
  have z1 := (cell_of_blk HZ.out 1).trans (show _ = some (.string ⟨#[]⟩) from rfl)
  have z2 := (cell_of_blk HZ.out 2).trans (show _ = some (.string ⟨#[]⟩) from rfl)
  have f0 := frozen_of_blk HZ.out 0
  have f1 := frozen_of_blk HZ.out 1
  have f2 := frozen_of_blk HZ.out 2
  go_wp2_with fail
  refine bodyPost_ret (v := .tuple #[.agg #[.int .i64 0, .string ⟨#[]⟩, .string ⟨#[]⟩], .bool false, .int .i64 203]) (by simp [results, Try.results21, go_sem, z0, z1, z2]) rfl ⟨rfl, ?_⟩
  exact ((((Hb.out).setCell (p := ⟨W.heap.size + 1, 0, none⟩) (Nat.le_succ _) _).setCell (p := ⟨W.heap.size + 1, 1, none⟩) (Nat.le_succ _) _).setCell (p := ⟨W.heap.size + 1, 2, none⟩) (Nat.le_succ _) _)
theorem bel_grownB {W V : World} (h : Below W.heap.size W V) (b : Nat) : W.grownBy V (some b) := ⟨h.os, h.tape, h.output, h.size, fun k hk _ => h.block k hk⟩
theorem move_end {W : World} {lo base mb : Nat} {most : Int} {rows : List Wr} {sm im hd : Nat} {S : Int → Option Int} {zs : Nat} {P : Int → Option Nat} {zi : Nat} {L : Nat → List Bo} {A : Nat → Int} (h : MS W lo base mb most rows sm im hd S zs P zi L A) {U : World} {hh how p q p' : Int} {b : Nat} {key : ByteArray} {l : List Bo} {v : Value} {x : Bo} {f : Bool} (hP : P hh = some b) (hv : W.heap[b]? = some (.cells #[v, .int .i64 p] 85 (0, 0))) (hg : W.grownBy U (some b)) (hb : U.heap[b]? = some (.cells #[v, .int .i64 p'] 85 (0, 0)))
    (hlob : lo ≤ b) (hll : l = L b) (hpp : p = A b) (hq : q = mvQ l how p key) (h1 : mvIn l q = f) (h2 : mvP l q = p') (h3 : mvX l q = x) :
    MoveOut W lo base mb most rows sm im hd S zs P zi L A b (mvQ (L b) how (A b) key) (.returned (.tuple #[.agg #[.int .i64 x.k, .string x.u, .string x.v], .bool f, .int .i64 0])) U := by
  unfold MoveOut
  rw [← hll, ← hpp, ← hq, h1, h2, h3]
  refine ⟨rfl, h.moved hP hv hg hb, KeepN.walk hv hg, grown_below hg hlob (Nat.le_of_lt (Nat.lt_of_le_of_lt hlob (blk_lt hv))), hg, fun v' p' hv' => ?_⟩
  rw [hv] at hv'
  injection hv' with hv'
  injection hv' with hv' _ _
  have e0 : v = v' := by
    have := congrArg (·[0]?) hv'
    simpa using this
  rw [← e0]
  exact hb
set_option maxHeartbeats 3200000 in
theorem move_range {W : World} {lo base mb : Nat} {most : Int} {rows : List Wr} {sm im hd : Nat} {S : Int → Option Int} {zs : Nat} {P : Int → Option Nat} {zi : Nat} {L : Nat → List Bo} {A : Nat → Int} (h : MS W lo base mb most rows sm im hd S zs P zi L A) (hh how : Int) (key : ByteArray) (b : Nat) (hw : (Lit.int .i64 hh).wf = true) (hP : P hh = some b) (hhow : how < 1 ∨ 5 < how) (hlen : (L b).length ≤ 100000) (hpr : -1 ≤ A b ∧ A b < 100000) :
    Calls Try.prog 21 #[.pointer (some ⟨mb, 0, none⟩), .int .i64 hh, .int .i64 how, .string key] W fun e W' => e = .returned (.tuple #[.agg #[.int .i64 0, .string ⟨#[]⟩, .string ⟨#[]⟩], .bool false, .int .i64 70]) ∧ Below W.heap.size W W' := by
  obtain ⟨W0, hW0⟩ : ∃ V, V = (W.alloc (.cells #[.string key] 9)).alloc (.cells #[.int .i64 0, .string ⟨#[]⟩, .string ⟨#[]⟩] 40) := ⟨_, rfl⟩
  have hb0 : Below W.heap.size W W0 := by rw [hW0]; exact ((Below.refl _ _).alloc (Nat.le_refl _) _).alloc (by simp) _
  have h2 := h.bel hb0
  obtain ⟨a, c, hB, -⟩ := h2.mo.ex
  have m4 := (cell_of_blk hB 4).trans (show _ = some (.map (some im)) from rfl)
  have hl := h2.itr.look hh hw
  rw [hP] at hl
  have hlk : (Instr.lookup 76 (.map (some im)) (.int .i64 hh) false).run Try.prog W0 = .ok (.pointer (some ⟨b, 0, none⟩)) W0 := hl
  have hz : W0.heap[W.heap.size + 1]? = some (.cells #[.int .i64 0, .string ⟨#[]⟩, .string ⟨#[]⟩] 40 (0, 0)) := by rw [hW0]; exact blk_newF (by simp only [World.size_alloc]) _
  have hky : W0.heap[W.heap.size]? = some (.cells #[.string key] 9 (0, 0)) := by rw [hW0]; exact blk_old (blk_newF rfl _) _
  obtain ⟨⟨v, hwv, hwo⟩, hlob, -⟩ := h.wk hh b hP
  obtain ⟨va, vc, rfl⟩ := own_slice hwo
  obtain ⟨l, hll⟩ : ∃ l, l = L b := ⟨_, rfl⟩
  obtain ⟨p, hpp⟩ : ∃ p, p = A b := ⟨_, rfl⟩
  rw [← hll] at hwo hwv
  rw [← hpp] at hwv
  have Hll := Lib.hid hll
  have Hpp := Lib.hid hpp
  have hp := Hpp.out
  have hbl : b < W.heap.size := blk_lt hwv
  have H := Lib.hid h
  have HW0 := Lib.hid hW0
  have HZ0 := Lib.hid hz
  have HK0 := Lib.hid hky
  have Hb0 := Lib.hid hb0
  have HWV := Lib.hid hwv
  have HWo := Lib.hid hwo
  have Hlob := Lib.hid hlob
  have Hbl := Lib.hid hbl
  have HP := Lib.hid hP
  have HW00 : Hid (W0.heap[b]? = some (.cells #[.slice va l.length vc, .int .i64 p] 85 (0, 0))) := Lib.hid (blk_bels hb0 hwv)
  obtain ⟨n, hn⟩ : ∃ n, n = l.length := ⟨_, rfl⟩
  rw [← hn] at HWV HW00
  have hnl : n ≤ 100000 := by rw [hn, hll]; exact hlen
  have Hn := Lib.hid hn
  have hpb : -1 ≤ p ∧ p < 100000 := by rw [hpp]; exact hpr
  have w0 := (cell_of_blk HW00.out 0).trans (show _ = some (.slice va n vc) from rfl)
  have w1 := (cell_of_blk HW00.out 1).trans (show _ = some (.int .i64 p) from rfl)
  have fw1 := frozen_of_blk HW00.out 1
  have G0 : Hid (W.grownBy W0 (some b)) := Lib.hid (bel_grownB hb0 b)
  clear h h2 hB hl hW0 hz hky hb0 hwv hwo hlob hbl hP hn hll hpp hp hlen hpr
  have q1 : (how == 1) = false := beq_eq_false_iff_ne.2 (by omega)
  have q2 : (how == 2) = false := beq_eq_false_iff_ne.2 (by omega)
  have q3 : (how == 3) = false := beq_eq_false_iff_ne.2 (by omega)
  have q4 : (how == 4) = false := beq_eq_false_iff_ne.2 (by omega)
  have q5 : (how == 5) = false := beq_eq_false_iff_ne.2 (by omega)
  clear hhow
  go_enter Try.func21, Try.ntmps21
  go_upto_region 1 with fail
  rw [← HW0.out]
  have z0 := (cell_of_blk HZ0.out 0).trans (show _ = some (.int .i64 0) from rfl)
  have z1 := (cell_of_blk HZ0.out 1).trans (show _ = some (.string ⟨#[]⟩) from rfl)
  have z2 := (cell_of_blk HZ0.out 2).trans (show _ = some (.string ⟨#[]⟩) from rfl)
  have f0 := frozen_of_blk HZ0.out 0
  have f1 := frozen_of_blk HZ0.out 1
  have f2 := frozen_of_blk HZ0.out 2
  go_wp2_with fail
  refine bodyPost_ret (v := .tuple #[.agg #[.int .i64 0, .string ⟨#[]⟩, .string ⟨#[]⟩], .bool false, .int .i64 70]) (by simp [results, Try.results21, go_sem, z0, z1, z2]) rfl ⟨rfl, ?_⟩
  exact ((((Hb0.out).setCell (p := ⟨W.heap.size + 1, 0, none⟩) (Nat.le_succ _) _).setCell (p := ⟨W.heap.size + 1, 1, none⟩) (Nat.le_succ _) _).setCell (p := ⟨W.heap.size + 1, 2, none⟩) (Nat.le_succ _) _)
set_option maxHeartbeats 6400000 in
theorem move_yes {W : World} {lo base mb : Nat} {most : Int} {rows : List Wr} {sm im hd : Nat} {S : Int → Option Int} {zs : Nat} {P : Int → Option Nat} {zi : Nat} {L : Nat → List Bo} {A : Nat → Int} (h : MS W lo base mb most rows sm im hd S zs P zi L A) (hh how : Int) (key : ByteArray) (b : Nat) (hw : (Lit.int .i64 hh).wf = true) (hP : P hh = some b) (hhow : 1 ≤ how ∧ how ≤ 5) (hlen : (L b).length ≤ 100000) (hpr : -1 ≤ A b ∧ A b < 100000) :
    Calls Try.prog 21 #[.pointer (some ⟨mb, 0, none⟩), .int .i64 hh, .int .i64 how, .string key] W (MoveOut W lo base mb most rows sm im hd S zs P zi L A b (mvQ (L b) how (A b) key)) := by
  obtain ⟨W0, hW0⟩ : ∃ V, V = (W.alloc (.cells #[.string key] 9)).alloc (.cells #[.int .i64 0, .string ⟨#[]⟩, .string ⟨#[]⟩] 40) := ⟨_, rfl⟩
  have hb0 : Below W.heap.size W W0 := by rw [hW0]; exact ((Below.refl _ _).alloc (Nat.le_refl _) _).alloc (by simp) _
  have h2 := h.bel hb0
  obtain ⟨a, c, hB, -⟩ := h2.mo.ex
  have m4 := (cell_of_blk hB 4).trans (show _ = some (.map (some im)) from rfl)
  have hl := h2.itr.look hh hw
  rw [hP] at hl
  have hlk : (Instr.lookup 76 (.map (some im)) (.int .i64 hh) false).run Try.prog W0 = .ok (.pointer (some ⟨b, 0, none⟩)) W0 := hl
  have hz : W0.heap[W.heap.size + 1]? = some (.cells #[.int .i64 0, .string ⟨#[]⟩, .string ⟨#[]⟩] 40 (0, 0)) := by rw [hW0]; exact blk_newF (by simp only [World.size_alloc]) _
  have hky : W0.heap[W.heap.size]? = some (.cells #[.string key] 9 (0, 0)) := by rw [hW0]; exact blk_old (blk_newF rfl _) _
  obtain ⟨⟨v, hwv, hwo⟩, hlob, -⟩ := h.wk hh b hP
  obtain ⟨va, vc, rfl⟩ := own_slice hwo
  obtain ⟨l, hll⟩ : ∃ l, l = L b := ⟨_, rfl⟩
  obtain ⟨p, hpp⟩ : ∃ p, p = A b := ⟨_, rfl⟩
  rw [← hll] at hwo hwv
  rw [← hpp] at hwv
  have Hll := Lib.hid hll
  have Hpp := Lib.hid hpp
  have hp := Hpp.out
  have hbl : b < W.heap.size := blk_lt hwv
  have H := Lib.hid h
  have HW0 := Lib.hid hW0
  have HZ0 := Lib.hid hz
  have HK0 := Lib.hid hky
  have Hb0 := Lib.hid hb0
  have HWV := Lib.hid hwv
  have HWo := Lib.hid hwo
  have Hlob := Lib.hid hlob
  have Hbl := Lib.hid hbl
  have HP := Lib.hid hP
  have HW00 : Hid (W0.heap[b]? = some (.cells #[.slice va l.length vc, .int .i64 p] 85 (0, 0))) := Lib.hid (blk_bels hb0 hwv)
  obtain ⟨n, hn⟩ : ∃ n, n = l.length := ⟨_, rfl⟩
  rw [← hn] at HWV HW00
  have hnl : n ≤ 100000 := by rw [hn, hll]; exact hlen
  have Hn := Lib.hid hn
  have hpb : -1 ≤ p ∧ p < 100000 := by rw [hpp]; exact hpr
  have w0 := (cell_of_blk HW00.out 0).trans (show _ = some (.slice va n vc) from rfl)
  have w1 := (cell_of_blk HW00.out 1).trans (show _ = some (.int .i64 p) from rfl)
  have fw1 := frozen_of_blk HW00.out 1
  have G0 : Hid (W.grownBy W0 (some b)) := Lib.hid (bel_grownB hb0 b)
  clear h h2 hB hl hW0 hz hky hb0 hwv hwo hlob hbl hP hn hll hpp hp hlen hpr
  have HWo2 : Hid (OwnO W (.slice va n vc) l) := Lib.hid (by rw [Hn.out]; exact HWo.out)
  have hcs : how = 1 ∨ how = 2 ∨ how = 3 ∨ how = 4 ∨ how = 5 := by omega
  clear hhow
  rcases hcs with rfl | rfl | rfl | rfl | rfl
  · -- how = 1
    skip
    go_enter Try.func21, Try.ntmps21
    go_upto_region 1 with fail
    rw [← HW0.out]
    go_upto_region 17 with fail
    obtain ⟨q, hq⟩ : ∃ q : Int, q = 0 := ⟨_, rfl⟩
    have Hq : Hid (q = mvQ l 1 p key) := Lib.hid (by rw [hq]; rfl)
    have F1 : Hid ((W0.setCell ⟨b, 1, none⟩ (.int .i64 (0))).heap[b]? = some (.cells #[.slice va n vc, .int .i64 q] 85 (0, 0))) := Lib.hid (by rw [hq]; exact (blk_set HW00.out).trans rfl)
    have Z : Hid ((W0.setCell ⟨b, 1, none⟩ (.int .i64 (0))).heap[W.heap.size + 1]? = some (.cells #[.int .i64 0, .string ⟨#[]⟩, .string ⟨#[]⟩] 40 (0, 0))) := Lib.hid ((Below.heap_setCell _ ⟨b, 1, none⟩ _ (W.heap.size + 1) (fun e => by have e2 : W.heap.size + 1 = b := e; have := Hbl.out; omega)).trans HZ0.out)
    have G : Hid (W.grownBy (W0.setCell ⟨b, 1, none⟩ (.int .i64 (0))) (some b)) := Lib.hid (grown_atset G0.out)
    generalize W0.setCell ⟨b, 1, none⟩ (.int .i64 (0)) = V at *
    clear w0 w1 fw1 m4 hlk hq
    have v0 := (cell_of_blk F1.out 0).trans (show _ = some (.slice va n vc) from rfl)
    have v1 := (cell_of_blk F1.out 1).trans (show _ = some (.int .i64 q) from rfl)
    have fv1 := frozen_of_blk F1.out 1
    have hOV : OwnO V (.slice va n vc) l := own_for HWo2.out (fun g cs fr hg => by
      refine (G.out.block g (blk_lt hg) (fun e => ?_)).trans hg
      injection e with e
      subst e
      rw [HWV.out] at hg
      cases hg)
    by_cases hq0 : q < 0
    · have hmv := mv_out (l := l) (q := q) (.inl hq0)
      have Hmv := Lib.hid hmv
      clear hmv hOV
      go_quiet (fail)
      rename_i nq
      have G2 : Hid (W.grownBy (V.drewN nq) (some b)) := Lib.hid (grown_more G.out (below_drewN (Below.refl _ _) nq))
      have F2 : Hid ((V.drewN nq).heap[b]? = some (.cells #[.slice va n vc, .int .i64 q] 85 (0, 0))) := Lib.hid F1.out
      have Z2 : Hid ((V.drewN nq).heap[W.heap.size + 1]? = some (.cells #[.int .i64 0, .string ⟨#[]⟩, .string ⟨#[]⟩] 40 (0, 0))) := Lib.hid Z.out
      generalize V.drewN nq = U at *
      clear v0 v1 fv1 F1 Z G
      have v1 := (cell_of_blk F2.out 1).trans (show _ = some (.int .i64 q) from rfl)
      have fv1 := frozen_of_blk F2.out 1
      have hbz : W.heap.size + 1 ≠ b := by have := Hbl.out; omega
      go_upto_region 19 with fail
      have G3 : Hid (W.grownBy (U.setCell ⟨b, 1, none⟩ (.int .i64 (-1))) (some b)) := Lib.hid (grown_atset G2.out)
      have F3 : Hid ((U.setCell ⟨b, 1, none⟩ (.int .i64 (-1))).heap[b]? = some (.cells #[.slice va n vc, .int .i64 (-1)] 85 (0, 0))) := Lib.hid ((blk_set F2.out).trans rfl)
      have Z3 : Hid ((U.setCell ⟨b, 1, none⟩ (.int .i64 (-1))).heap[W.heap.size + 1]? = some (.cells #[.int .i64 0, .string ⟨#[]⟩, .string ⟨#[]⟩] 40 (0, 0))) := Lib.hid ((Below.heap_setCell _ ⟨b, 1, none⟩ _ (W.heap.size + 1) hbz).trans Z2.out)
      generalize U.setCell ⟨b, 1, none⟩ (.int .i64 (-1)) = U2 at *
      clear v1 fv1 G2 F2 Z2 hbz
      have z0 := (cell_of_blk Z3.out 0).trans (show _ = some (.int .i64 0) from rfl)
      have z1 := (cell_of_blk Z3.out 1).trans (show _ = some (.string ⟨#[]⟩) from rfl)
      have z2 := (cell_of_blk Z3.out 2).trans (show _ = some (.string ⟨#[]⟩) from rfl)
      have f0 := frozen_of_blk Z3.out 0
      have f1 := frozen_of_blk Z3.out 1
      have f2 := frozen_of_blk Z3.out 2
      go_wp2_with fail
      refine bodyPost_ret (v := .tuple #[.agg #[.int .i64 0, .string ⟨#[]⟩, .string ⟨#[]⟩], .bool false, .int .i64 0]) (by simp [results, Try.results21, go_sem, z0, z1, z2]) rfl ?_
      refine move_end (x := Bo.nil) H.out HP.out HWV.out (grown_newset (grown_newset (grown_newset G3.out (Nat.le_succ _)) (Nat.le_succ _)) (Nat.le_succ _)) ?_ Hlob.out Hll.out Hpp.out Hq.out Hmv.out.1 Hmv.out.2.1 Hmv.out.2.2
      have hbz : b ≠ W.heap.size + 1 := by have := Hbl.out; omega
      exact (Below.heap_setCell _ ⟨W.heap.size + 1, 2, none⟩ _ b hbz).trans ((Below.heap_setCell _ ⟨W.heap.size + 1, 1, none⟩ _ b hbz).trans ((Below.heap_setCell _ ⟨W.heap.size + 1, 0, none⟩ _ b hbz).trans F3.out))
    · by_cases hqn : (n : Int) ≤ q
      · have hmv := mv_out (l := l) (q := q) (.inr (by rw [← Hn.out]; exact hqn))
        have Hmv := Lib.hid hmv
        clear hmv hOV
        go_quiet (fail)
        rename_i nq
        have G2 : Hid (W.grownBy (V.drewN nq) (some b)) := Lib.hid (grown_more G.out (below_drewN (Below.refl _ _) nq))
        have F2 : Hid ((V.drewN nq).heap[b]? = some (.cells #[.slice va n vc, .int .i64 q] 85 (0, 0))) := Lib.hid F1.out
        have Z2 : Hid ((V.drewN nq).heap[W.heap.size + 1]? = some (.cells #[.int .i64 0, .string ⟨#[]⟩, .string ⟨#[]⟩] 40 (0, 0))) := Lib.hid Z.out
        generalize V.drewN nq = U at *
        clear v0 v1 fv1 F1 Z G
        have v1 := (cell_of_blk F2.out 1).trans (show _ = some (.int .i64 q) from rfl)
        have fv1 := frozen_of_blk F2.out 1
        have hbz : W.heap.size + 1 ≠ b := by have := Hbl.out; omega
        go_upto_region 19 with fail
        have G3 : Hid (W.grownBy (U.setCell ⟨b, 1, none⟩ (.int .i64 (-1))) (some b)) := Lib.hid (grown_atset G2.out)
        have F3 : Hid ((U.setCell ⟨b, 1, none⟩ (.int .i64 (-1))).heap[b]? = some (.cells #[.slice va n vc, .int .i64 (-1)] 85 (0, 0))) := Lib.hid ((blk_set F2.out).trans rfl)
        have Z3 : Hid ((U.setCell ⟨b, 1, none⟩ (.int .i64 (-1))).heap[W.heap.size + 1]? = some (.cells #[.int .i64 0, .string ⟨#[]⟩, .string ⟨#[]⟩] 40 (0, 0))) := Lib.hid ((Below.heap_setCell _ ⟨b, 1, none⟩ _ (W.heap.size + 1) hbz).trans Z2.out)
        generalize U.setCell ⟨b, 1, none⟩ (.int .i64 (-1)) = U2 at *
        clear v1 fv1 G2 F2 Z2 hbz
        have z0 := (cell_of_blk Z3.out 0).trans (show _ = some (.int .i64 0) from rfl)
        have z1 := (cell_of_blk Z3.out 1).trans (show _ = some (.string ⟨#[]⟩) from rfl)
        have z2 := (cell_of_blk Z3.out 2).trans (show _ = some (.string ⟨#[]⟩) from rfl)
        have f0 := frozen_of_blk Z3.out 0
        have f1 := frozen_of_blk Z3.out 1
        have f2 := frozen_of_blk Z3.out 2
        go_wp2_with fail
        refine bodyPost_ret (v := .tuple #[.agg #[.int .i64 0, .string ⟨#[]⟩, .string ⟨#[]⟩], .bool false, .int .i64 0]) (by simp [results, Try.results21, go_sem, z0, z1, z2]) rfl ?_
        refine move_end (x := Bo.nil) H.out HP.out HWV.out (grown_newset (grown_newset (grown_newset G3.out (Nat.le_succ _)) (Nat.le_succ _)) (Nat.le_succ _)) ?_ Hlob.out Hll.out Hpp.out Hq.out Hmv.out.1 Hmv.out.2.1 Hmv.out.2.2
        have hbz : b ≠ W.heap.size + 1 := by have := Hbl.out; omega
        exact (Below.heap_setCell _ ⟨W.heap.size + 1, 2, none⟩ _ b hbz).trans ((Below.heap_setCell _ ⟨W.heap.size + 1, 1, none⟩ _ b hbz).trans ((Below.heap_setCell _ ⟨W.heap.size + 1, 0, none⟩ _ b hbz).trans F3.out))
      · obtain ⟨i, rfl⟩ : ∃ i : Nat, q = (i : Int) := ⟨q.toNat, by omega⟩
        have hin : i < n := by omega
        obtain ⟨x, hx⟩ : ∃ x, l[i]? = some x := ⟨_, List.getElem?_eq_getElem (by rw [← Hn.out]; exact hin)⟩
        have hmv := mv_in hx
        have Hmv := Lib.hid hmv
        have hos := hOV.isOs
        obtain ⟨-, hc, hm, hxx⟩ := hos.at
        obtain ⟨bo, off, rfl, hcell⟩ := hxx (by omega)
        have hro := fun (X : World) (hX : Below V.heap.size V X) => IsOs.row (w := X) (fun i x hi j y hj => (hX.cell (block_lt_of_cell (hcell i x hi j y hj))).trans (hcell i x hi j y hj)) hx
        have Hro := Lib.hid hro
        have hin2 : (i : Int) < (n : Int) := by omega
        clear hmv hOV hos hxx hcell hx hro
        go_quiet (fail)
        rename_i nq
        have G2 : Hid (W.grownBy (V.drewN nq) (some b)) := Lib.hid (grown_more G.out (below_drewN (Below.refl _ _) nq))
        have F2 : Hid ((V.drewN nq).heap[b]? = some (.cells #[.slice (some ⟨bo, off, none⟩) n vc, .int .i64 i] 85 (0, 0))) := Lib.hid F1.out
        have Z2 : Hid ((V.drewN nq).heap[W.heap.size + 1]? = some (.cells #[.int .i64 0, .string ⟨#[]⟩, .string ⟨#[]⟩] 40 (0, 0))) := Lib.hid Z.out
        obtain ⟨r0, r1, r2⟩ := Hro.out (V.drewN nq) (below_drewN (Below.refl _ _) nq)
        generalize V.drewN nq = U at *
        clear v0 v1 fv1 Hro F1 Z G
        have v0 := (cell_of_blk F2.out 0).trans (show _ = some (.slice (some ⟨bo, off, none⟩) n vc) from rfl)
        have v1 := (cell_of_blk F2.out 1).trans (show _ = some (.int .i64 i) from rfl)
        have z0 := (cell_of_blk Z2.out 0).trans (show _ = some (.int .i64 0) from rfl)
        have z1 := (cell_of_blk Z2.out 1).trans (show _ = some (.string ⟨#[]⟩) from rfl)
        have z2 := (cell_of_blk Z2.out 2).trans (show _ = some (.string ⟨#[]⟩) from rfl)
        have f0 := frozen_of_blk Z2.out 0
        have f1 := frozen_of_blk Z2.out 1
        have f2 := frozen_of_blk Z2.out 2
        obtain ⟨xk, xu, xv⟩ := x
        dsimp only at r0 r1 r2
        go_wp2_with fail
        go_still_tail 10, (by kernel_rfl)
        change wpList _ _ _ _ _ U.drew
        go_wp2_with fail
        refine bodyPost_ret (v := .tuple #[.agg #[.int .i64 xk, .string xu, .string xv], .bool true, .int .i64 0]) (by simp [results, Try.results21, go_sem, z0, z1, z2]) rfl ?_
        have GG := grown_newset (i := 2) (x := .string xv) (grown_newset (i := 1) (x := .string xu) (grown_newset (i := 0) (x := .int .i64 xk) G2.out (Nat.le_succ _)) (Nat.le_succ _)) (Nat.le_succ _)
        refine move_end (x := ⟨xk, xu, xv⟩) H.out HP.out HWV.out (by first | exact GG | exact grown_drewB GG) ?_ Hlob.out Hll.out Hpp.out Hq.out Hmv.out.1 Hmv.out.2.1 Hmv.out.2.2
        have hbz : b ≠ W.heap.size + 1 := by have := Hbl.out; omega
        exact (Below.heap_setCell _ ⟨W.heap.size + 1, 2, none⟩ _ b hbz).trans ((Below.heap_setCell _ ⟨W.heap.size + 1, 1, none⟩ _ b hbz).trans ((Below.heap_setCell _ ⟨W.heap.size + 1, 0, none⟩ _ b hbz).trans F2.out))
  · -- how = 2
    skip
    go_enter Try.func21, Try.ntmps21
    go_upto_region 1 with fail
    rw [← HW0.out]
    go_upto_region 17 with fail
    obtain ⟨q, hq⟩ : ∃ q : Int, q = (n : Int) - 1 := ⟨_, rfl⟩
    have Hq : Hid (q = mvQ l 2 p key) := Lib.hid (by rw [hq]; rw [Hn.out]; rfl)
    have F1 : Hid ((W0.setCell ⟨b, 1, none⟩ (.int .i64 ((n : Int) - 1))).heap[b]? = some (.cells #[.slice va n vc, .int .i64 q] 85 (0, 0))) := Lib.hid (by rw [hq]; exact (blk_set HW00.out).trans rfl)
    have Z : Hid ((W0.setCell ⟨b, 1, none⟩ (.int .i64 ((n : Int) - 1))).heap[W.heap.size + 1]? = some (.cells #[.int .i64 0, .string ⟨#[]⟩, .string ⟨#[]⟩] 40 (0, 0))) := Lib.hid ((Below.heap_setCell _ ⟨b, 1, none⟩ _ (W.heap.size + 1) (fun e => by have e2 : W.heap.size + 1 = b := e; have := Hbl.out; omega)).trans HZ0.out)
    have G : Hid (W.grownBy (W0.setCell ⟨b, 1, none⟩ (.int .i64 ((n : Int) - 1))) (some b)) := Lib.hid (grown_atset G0.out)
    generalize W0.setCell ⟨b, 1, none⟩ (.int .i64 ((n : Int) - 1)) = V at *
    clear w0 w1 fw1 m4 hlk hq
    have v0 := (cell_of_blk F1.out 0).trans (show _ = some (.slice va n vc) from rfl)
    have v1 := (cell_of_blk F1.out 1).trans (show _ = some (.int .i64 q) from rfl)
    have fv1 := frozen_of_blk F1.out 1
    have hOV : OwnO V (.slice va n vc) l := own_for HWo2.out (fun g cs fr hg => by
      refine (G.out.block g (blk_lt hg) (fun e => ?_)).trans hg
      injection e with e
      subst e
      rw [HWV.out] at hg
      cases hg)
    by_cases hq0 : q < 0
    · have hmv := mv_out (l := l) (q := q) (.inl hq0)
      have Hmv := Lib.hid hmv
      clear hmv hOV
      go_quiet (fail)
      rename_i nq
      have G2 : Hid (W.grownBy (V.drewN nq) (some b)) := Lib.hid (grown_more G.out (below_drewN (Below.refl _ _) nq))
      have F2 : Hid ((V.drewN nq).heap[b]? = some (.cells #[.slice va n vc, .int .i64 q] 85 (0, 0))) := Lib.hid F1.out
      have Z2 : Hid ((V.drewN nq).heap[W.heap.size + 1]? = some (.cells #[.int .i64 0, .string ⟨#[]⟩, .string ⟨#[]⟩] 40 (0, 0))) := Lib.hid Z.out
      generalize V.drewN nq = U at *
      clear v0 v1 fv1 F1 Z G
      have v1 := (cell_of_blk F2.out 1).trans (show _ = some (.int .i64 q) from rfl)
      have fv1 := frozen_of_blk F2.out 1
      have hbz : W.heap.size + 1 ≠ b := by have := Hbl.out; omega
      go_upto_region 19 with fail
      have G3 : Hid (W.grownBy (U.setCell ⟨b, 1, none⟩ (.int .i64 (-1))) (some b)) := Lib.hid (grown_atset G2.out)
      have F3 : Hid ((U.setCell ⟨b, 1, none⟩ (.int .i64 (-1))).heap[b]? = some (.cells #[.slice va n vc, .int .i64 (-1)] 85 (0, 0))) := Lib.hid ((blk_set F2.out).trans rfl)
      have Z3 : Hid ((U.setCell ⟨b, 1, none⟩ (.int .i64 (-1))).heap[W.heap.size + 1]? = some (.cells #[.int .i64 0, .string ⟨#[]⟩, .string ⟨#[]⟩] 40 (0, 0))) := Lib.hid ((Below.heap_setCell _ ⟨b, 1, none⟩ _ (W.heap.size + 1) hbz).trans Z2.out)
      generalize U.setCell ⟨b, 1, none⟩ (.int .i64 (-1)) = U2 at *
      clear v1 fv1 G2 F2 Z2 hbz
      have z0 := (cell_of_blk Z3.out 0).trans (show _ = some (.int .i64 0) from rfl)
      have z1 := (cell_of_blk Z3.out 1).trans (show _ = some (.string ⟨#[]⟩) from rfl)
      have z2 := (cell_of_blk Z3.out 2).trans (show _ = some (.string ⟨#[]⟩) from rfl)
      have f0 := frozen_of_blk Z3.out 0
      have f1 := frozen_of_blk Z3.out 1
      have f2 := frozen_of_blk Z3.out 2
      go_wp2_with fail
      refine bodyPost_ret (v := .tuple #[.agg #[.int .i64 0, .string ⟨#[]⟩, .string ⟨#[]⟩], .bool false, .int .i64 0]) (by simp [results, Try.results21, go_sem, z0, z1, z2]) rfl ?_
      refine move_end (x := Bo.nil) H.out HP.out HWV.out (grown_newset (grown_newset (grown_newset G3.out (Nat.le_succ _)) (Nat.le_succ _)) (Nat.le_succ _)) ?_ Hlob.out Hll.out Hpp.out Hq.out Hmv.out.1 Hmv.out.2.1 Hmv.out.2.2
      have hbz : b ≠ W.heap.size + 1 := by have := Hbl.out; omega
      exact (Below.heap_setCell _ ⟨W.heap.size + 1, 2, none⟩ _ b hbz).trans ((Below.heap_setCell _ ⟨W.heap.size + 1, 1, none⟩ _ b hbz).trans ((Below.heap_setCell _ ⟨W.heap.size + 1, 0, none⟩ _ b hbz).trans F3.out))
    · by_cases hqn : (n : Int) ≤ q
      · have hmv := mv_out (l := l) (q := q) (.inr (by rw [← Hn.out]; exact hqn))
        have Hmv := Lib.hid hmv
        clear hmv hOV
        go_quiet (fail)
        rename_i nq
        have G2 : Hid (W.grownBy (V.drewN nq) (some b)) := Lib.hid (grown_more G.out (below_drewN (Below.refl _ _) nq))
        have F2 : Hid ((V.drewN nq).heap[b]? = some (.cells #[.slice va n vc, .int .i64 q] 85 (0, 0))) := Lib.hid F1.out
        have Z2 : Hid ((V.drewN nq).heap[W.heap.size + 1]? = some (.cells #[.int .i64 0, .string ⟨#[]⟩, .string ⟨#[]⟩] 40 (0, 0))) := Lib.hid Z.out
        generalize V.drewN nq = U at *
        clear v0 v1 fv1 F1 Z G
        have v1 := (cell_of_blk F2.out 1).trans (show _ = some (.int .i64 q) from rfl)
        have fv1 := frozen_of_blk F2.out 1
        have hbz : W.heap.size + 1 ≠ b := by have := Hbl.out; omega
        go_upto_region 19 with fail
        have G3 : Hid (W.grownBy (U.setCell ⟨b, 1, none⟩ (.int .i64 (-1))) (some b)) := Lib.hid (grown_atset G2.out)
        have F3 : Hid ((U.setCell ⟨b, 1, none⟩ (.int .i64 (-1))).heap[b]? = some (.cells #[.slice va n vc, .int .i64 (-1)] 85 (0, 0))) := Lib.hid ((blk_set F2.out).trans rfl)
        have Z3 : Hid ((U.setCell ⟨b, 1, none⟩ (.int .i64 (-1))).heap[W.heap.size + 1]? = some (.cells #[.int .i64 0, .string ⟨#[]⟩, .string ⟨#[]⟩] 40 (0, 0))) := Lib.hid ((Below.heap_setCell _ ⟨b, 1, none⟩ _ (W.heap.size + 1) hbz).trans Z2.out)
        generalize U.setCell ⟨b, 1, none⟩ (.int .i64 (-1)) = U2 at *
        clear v1 fv1 G2 F2 Z2 hbz
        have z0 := (cell_of_blk Z3.out 0).trans (show _ = some (.int .i64 0) from rfl)
        have z1 := (cell_of_blk Z3.out 1).trans (show _ = some (.string ⟨#[]⟩) from rfl)
        have z2 := (cell_of_blk Z3.out 2).trans (show _ = some (.string ⟨#[]⟩) from rfl)
        have f0 := frozen_of_blk Z3.out 0
        have f1 := frozen_of_blk Z3.out 1
        have f2 := frozen_of_blk Z3.out 2
        go_wp2_with fail
        refine bodyPost_ret (v := .tuple #[.agg #[.int .i64 0, .string ⟨#[]⟩, .string ⟨#[]⟩], .bool false, .int .i64 0]) (by simp [results, Try.results21, go_sem, z0, z1, z2]) rfl ?_
        refine move_end (x := Bo.nil) H.out HP.out HWV.out (grown_newset (grown_newset (grown_newset G3.out (Nat.le_succ _)) (Nat.le_succ _)) (Nat.le_succ _)) ?_ Hlob.out Hll.out Hpp.out Hq.out Hmv.out.1 Hmv.out.2.1 Hmv.out.2.2
        have hbz : b ≠ W.heap.size + 1 := by have := Hbl.out; omega
        exact (Below.heap_setCell _ ⟨W.heap.size + 1, 2, none⟩ _ b hbz).trans ((Below.heap_setCell _ ⟨W.heap.size + 1, 1, none⟩ _ b hbz).trans ((Below.heap_setCell _ ⟨W.heap.size + 1, 0, none⟩ _ b hbz).trans F3.out))
      · obtain ⟨i, rfl⟩ : ∃ i : Nat, q = (i : Int) := ⟨q.toNat, by omega⟩
        have hin : i < n := by omega
        obtain ⟨x, hx⟩ : ∃ x, l[i]? = some x := ⟨_, List.getElem?_eq_getElem (by rw [← Hn.out]; exact hin)⟩
        have hmv := mv_in hx
        have Hmv := Lib.hid hmv
        have hos := hOV.isOs
        obtain ⟨-, hc, hm, hxx⟩ := hos.at
        obtain ⟨bo, off, rfl, hcell⟩ := hxx (by omega)
        have hro := fun (X : World) (hX : Below V.heap.size V X) => IsOs.row (w := X) (fun i x hi j y hj => (hX.cell (block_lt_of_cell (hcell i x hi j y hj))).trans (hcell i x hi j y hj)) hx
        have Hro := Lib.hid hro
        have hin2 : (i : Int) < (n : Int) := by omega
        clear hmv hOV hos hxx hcell hx hro
        go_quiet (fail)
        rename_i nq
        have G2 : Hid (W.grownBy (V.drewN nq) (some b)) := Lib.hid (grown_more G.out (below_drewN (Below.refl _ _) nq))
        have F2 : Hid ((V.drewN nq).heap[b]? = some (.cells #[.slice (some ⟨bo, off, none⟩) n vc, .int .i64 i] 85 (0, 0))) := Lib.hid F1.out
        have Z2 : Hid ((V.drewN nq).heap[W.heap.size + 1]? = some (.cells #[.int .i64 0, .string ⟨#[]⟩, .string ⟨#[]⟩] 40 (0, 0))) := Lib.hid Z.out
        obtain ⟨r0, r1, r2⟩ := Hro.out (V.drewN nq) (below_drewN (Below.refl _ _) nq)
        generalize V.drewN nq = U at *
        clear v0 v1 fv1 Hro F1 Z G
        have v0 := (cell_of_blk F2.out 0).trans (show _ = some (.slice (some ⟨bo, off, none⟩) n vc) from rfl)
        have v1 := (cell_of_blk F2.out 1).trans (show _ = some (.int .i64 i) from rfl)
        have z0 := (cell_of_blk Z2.out 0).trans (show _ = some (.int .i64 0) from rfl)
        have z1 := (cell_of_blk Z2.out 1).trans (show _ = some (.string ⟨#[]⟩) from rfl)
        have z2 := (cell_of_blk Z2.out 2).trans (show _ = some (.string ⟨#[]⟩) from rfl)
        have f0 := frozen_of_blk Z2.out 0
        have f1 := frozen_of_blk Z2.out 1
        have f2 := frozen_of_blk Z2.out 2
        obtain ⟨xk, xu, xv⟩ := x
        dsimp only at r0 r1 r2
        go_wp2_with fail
        go_still_tail 10, (by kernel_rfl)
        change wpList _ _ _ _ _ U.drew
        go_wp2_with fail
        refine bodyPost_ret (v := .tuple #[.agg #[.int .i64 xk, .string xu, .string xv], .bool true, .int .i64 0]) (by simp [results, Try.results21, go_sem, z0, z1, z2]) rfl ?_
        have GG := grown_newset (i := 2) (x := .string xv) (grown_newset (i := 1) (x := .string xu) (grown_newset (i := 0) (x := .int .i64 xk) G2.out (Nat.le_succ _)) (Nat.le_succ _)) (Nat.le_succ _)
        refine move_end (x := ⟨xk, xu, xv⟩) H.out HP.out HWV.out (by first | exact GG | exact grown_drewB GG) ?_ Hlob.out Hll.out Hpp.out Hq.out Hmv.out.1 Hmv.out.2.1 Hmv.out.2.2
        have hbz : b ≠ W.heap.size + 1 := by have := Hbl.out; omega
        exact (Below.heap_setCell _ ⟨W.heap.size + 1, 2, none⟩ _ b hbz).trans ((Below.heap_setCell _ ⟨W.heap.size + 1, 1, none⟩ _ b hbz).trans ((Below.heap_setCell _ ⟨W.heap.size + 1, 0, none⟩ _ b hbz).trans F2.out))
  · by_cases hpm : p = -1
    · -- how = 3a
      have pm : (p == -1) = true := by rw [hpm]; rfl
      have Hpm := Lib.hid hpm
      go_enter Try.func21, Try.ntmps21
      go_upto_region 1 with fail
      rw [← HW0.out]
      go_upto_region 17 with fail
      obtain ⟨q, hq⟩ : ∃ q : Int, q = -1 := ⟨_, rfl⟩
      have Hq : Hid (q = mvQ l 3 p key) := Lib.hid (by rw [hq, Hpm.out]; rfl)
      have F1 : Hid (W0.heap[b]? = some (.cells #[.slice va n vc, .int .i64 q] 85 (0, 0))) := Lib.hid (by rw [hq, ← Hpm.out]; exact HW00.out)
      have Z := HZ0
      have G := G0
      obtain ⟨V, hV⟩ : ∃ V, V = W0 := ⟨_, rfl⟩
      rw [← hV] at F1 Z G ⊢
      clear w0 w1 fw1 m4 hlk hq hV
      have v0 := (cell_of_blk F1.out 0).trans (show _ = some (.slice va n vc) from rfl)
      have v1 := (cell_of_blk F1.out 1).trans (show _ = some (.int .i64 q) from rfl)
      have fv1 := frozen_of_blk F1.out 1
      have hOV : OwnO V (.slice va n vc) l := own_for HWo2.out (fun g cs fr hg => by
        refine (G.out.block g (blk_lt hg) (fun e => ?_)).trans hg
        injection e with e
        subst e
        rw [HWV.out] at hg
        cases hg)
      by_cases hq0 : q < 0
      · have hmv := mv_out (l := l) (q := q) (.inl hq0)
        have Hmv := Lib.hid hmv
        clear hmv hOV
        go_quiet (fail)
        rename_i nq
        have G2 : Hid (W.grownBy (V.drewN nq) (some b)) := Lib.hid (grown_more G.out (below_drewN (Below.refl _ _) nq))
        have F2 : Hid ((V.drewN nq).heap[b]? = some (.cells #[.slice va n vc, .int .i64 q] 85 (0, 0))) := Lib.hid F1.out
        have Z2 : Hid ((V.drewN nq).heap[W.heap.size + 1]? = some (.cells #[.int .i64 0, .string ⟨#[]⟩, .string ⟨#[]⟩] 40 (0, 0))) := Lib.hid Z.out
        generalize V.drewN nq = U at *
        clear v0 v1 fv1 F1 Z G
        have v1 := (cell_of_blk F2.out 1).trans (show _ = some (.int .i64 q) from rfl)
        have fv1 := frozen_of_blk F2.out 1
        have hbz : W.heap.size + 1 ≠ b := by have := Hbl.out; omega
        go_upto_region 19 with fail
        have G3 : Hid (W.grownBy (U.setCell ⟨b, 1, none⟩ (.int .i64 (-1))) (some b)) := Lib.hid (grown_atset G2.out)
        have F3 : Hid ((U.setCell ⟨b, 1, none⟩ (.int .i64 (-1))).heap[b]? = some (.cells #[.slice va n vc, .int .i64 (-1)] 85 (0, 0))) := Lib.hid ((blk_set F2.out).trans rfl)
        have Z3 : Hid ((U.setCell ⟨b, 1, none⟩ (.int .i64 (-1))).heap[W.heap.size + 1]? = some (.cells #[.int .i64 0, .string ⟨#[]⟩, .string ⟨#[]⟩] 40 (0, 0))) := Lib.hid ((Below.heap_setCell _ ⟨b, 1, none⟩ _ (W.heap.size + 1) hbz).trans Z2.out)
        generalize U.setCell ⟨b, 1, none⟩ (.int .i64 (-1)) = U2 at *
        clear v1 fv1 G2 F2 Z2 hbz
        have z0 := (cell_of_blk Z3.out 0).trans (show _ = some (.int .i64 0) from rfl)
        have z1 := (cell_of_blk Z3.out 1).trans (show _ = some (.string ⟨#[]⟩) from rfl)
        have z2 := (cell_of_blk Z3.out 2).trans (show _ = some (.string ⟨#[]⟩) from rfl)
        have f0 := frozen_of_blk Z3.out 0
        have f1 := frozen_of_blk Z3.out 1
        have f2 := frozen_of_blk Z3.out 2
        go_wp2_with fail
        refine bodyPost_ret (v := .tuple #[.agg #[.int .i64 0, .string ⟨#[]⟩, .string ⟨#[]⟩], .bool false, .int .i64 0]) (by simp [results, Try.results21, go_sem, z0, z1, z2]) rfl ?_
        refine move_end (x := Bo.nil) H.out HP.out HWV.out (grown_newset (grown_newset (grown_newset G3.out (Nat.le_succ _)) (Nat.le_succ _)) (Nat.le_succ _)) ?_ Hlob.out Hll.out Hpp.out Hq.out Hmv.out.1 Hmv.out.2.1 Hmv.out.2.2
        have hbz : b ≠ W.heap.size + 1 := by have := Hbl.out; omega
        exact (Below.heap_setCell _ ⟨W.heap.size + 1, 2, none⟩ _ b hbz).trans ((Below.heap_setCell _ ⟨W.heap.size + 1, 1, none⟩ _ b hbz).trans ((Below.heap_setCell _ ⟨W.heap.size + 1, 0, none⟩ _ b hbz).trans F3.out))
      · by_cases hqn : (n : Int) ≤ q
        · have hmv := mv_out (l := l) (q := q) (.inr (by rw [← Hn.out]; exact hqn))
          have Hmv := Lib.hid hmv
          clear hmv hOV
          go_quiet (fail)
          rename_i nq
          have G2 : Hid (W.grownBy (V.drewN nq) (some b)) := Lib.hid (grown_more G.out (below_drewN (Below.refl _ _) nq))
          have F2 : Hid ((V.drewN nq).heap[b]? = some (.cells #[.slice va n vc, .int .i64 q] 85 (0, 0))) := Lib.hid F1.out
          have Z2 : Hid ((V.drewN nq).heap[W.heap.size + 1]? = some (.cells #[.int .i64 0, .string ⟨#[]⟩, .string ⟨#[]⟩] 40 (0, 0))) := Lib.hid Z.out
          generalize V.drewN nq = U at *
          clear v0 v1 fv1 F1 Z G
          have v1 := (cell_of_blk F2.out 1).trans (show _ = some (.int .i64 q) from rfl)
          have fv1 := frozen_of_blk F2.out 1
          have hbz : W.heap.size + 1 ≠ b := by have := Hbl.out; omega
          go_upto_region 19 with fail
          have G3 : Hid (W.grownBy (U.setCell ⟨b, 1, none⟩ (.int .i64 (-1))) (some b)) := Lib.hid (grown_atset G2.out)
          have F3 : Hid ((U.setCell ⟨b, 1, none⟩ (.int .i64 (-1))).heap[b]? = some (.cells #[.slice va n vc, .int .i64 (-1)] 85 (0, 0))) := Lib.hid ((blk_set F2.out).trans rfl)
          have Z3 : Hid ((U.setCell ⟨b, 1, none⟩ (.int .i64 (-1))).heap[W.heap.size + 1]? = some (.cells #[.int .i64 0, .string ⟨#[]⟩, .string ⟨#[]⟩] 40 (0, 0))) := Lib.hid ((Below.heap_setCell _ ⟨b, 1, none⟩ _ (W.heap.size + 1) hbz).trans Z2.out)
          generalize U.setCell ⟨b, 1, none⟩ (.int .i64 (-1)) = U2 at *
          clear v1 fv1 G2 F2 Z2 hbz
          have z0 := (cell_of_blk Z3.out 0).trans (show _ = some (.int .i64 0) from rfl)
          have z1 := (cell_of_blk Z3.out 1).trans (show _ = some (.string ⟨#[]⟩) from rfl)
          have z2 := (cell_of_blk Z3.out 2).trans (show _ = some (.string ⟨#[]⟩) from rfl)
          have f0 := frozen_of_blk Z3.out 0
          have f1 := frozen_of_blk Z3.out 1
          have f2 := frozen_of_blk Z3.out 2
          go_wp2_with fail
          refine bodyPost_ret (v := .tuple #[.agg #[.int .i64 0, .string ⟨#[]⟩, .string ⟨#[]⟩], .bool false, .int .i64 0]) (by simp [results, Try.results21, go_sem, z0, z1, z2]) rfl ?_
          refine move_end (x := Bo.nil) H.out HP.out HWV.out (grown_newset (grown_newset (grown_newset G3.out (Nat.le_succ _)) (Nat.le_succ _)) (Nat.le_succ _)) ?_ Hlob.out Hll.out Hpp.out Hq.out Hmv.out.1 Hmv.out.2.1 Hmv.out.2.2
          have hbz : b ≠ W.heap.size + 1 := by have := Hbl.out; omega
          exact (Below.heap_setCell _ ⟨W.heap.size + 1, 2, none⟩ _ b hbz).trans ((Below.heap_setCell _ ⟨W.heap.size + 1, 1, none⟩ _ b hbz).trans ((Below.heap_setCell _ ⟨W.heap.size + 1, 0, none⟩ _ b hbz).trans F3.out))
        · obtain ⟨i, rfl⟩ : ∃ i : Nat, q = (i : Int) := ⟨q.toNat, by omega⟩
          have hin : i < n := by omega
          obtain ⟨x, hx⟩ : ∃ x, l[i]? = some x := ⟨_, List.getElem?_eq_getElem (by rw [← Hn.out]; exact hin)⟩
          have hmv := mv_in hx
          have Hmv := Lib.hid hmv
          have hos := hOV.isOs
          obtain ⟨-, hc, hm, hxx⟩ := hos.at
          obtain ⟨bo, off, rfl, hcell⟩ := hxx (by omega)
          have hro := fun (X : World) (hX : Below V.heap.size V X) => IsOs.row (w := X) (fun i x hi j y hj => (hX.cell (block_lt_of_cell (hcell i x hi j y hj))).trans (hcell i x hi j y hj)) hx
          have Hro := Lib.hid hro
          have hin2 : (i : Int) < (n : Int) := by omega
          clear hmv hOV hos hxx hcell hx hro
          go_quiet (fail)
          rename_i nq
          have G2 : Hid (W.grownBy (V.drewN nq) (some b)) := Lib.hid (grown_more G.out (below_drewN (Below.refl _ _) nq))
          have F2 : Hid ((V.drewN nq).heap[b]? = some (.cells #[.slice (some ⟨bo, off, none⟩) n vc, .int .i64 i] 85 (0, 0))) := Lib.hid F1.out
          have Z2 : Hid ((V.drewN nq).heap[W.heap.size + 1]? = some (.cells #[.int .i64 0, .string ⟨#[]⟩, .string ⟨#[]⟩] 40 (0, 0))) := Lib.hid Z.out
          obtain ⟨r0, r1, r2⟩ := Hro.out (V.drewN nq) (below_drewN (Below.refl _ _) nq)
          generalize V.drewN nq = U at *
          clear v0 v1 fv1 Hro F1 Z G
          have v0 := (cell_of_blk F2.out 0).trans (show _ = some (.slice (some ⟨bo, off, none⟩) n vc) from rfl)
          have v1 := (cell_of_blk F2.out 1).trans (show _ = some (.int .i64 i) from rfl)
          have z0 := (cell_of_blk Z2.out 0).trans (show _ = some (.int .i64 0) from rfl)
          have z1 := (cell_of_blk Z2.out 1).trans (show _ = some (.string ⟨#[]⟩) from rfl)
          have z2 := (cell_of_blk Z2.out 2).trans (show _ = some (.string ⟨#[]⟩) from rfl)
          have f0 := frozen_of_blk Z2.out 0
          have f1 := frozen_of_blk Z2.out 1
          have f2 := frozen_of_blk Z2.out 2
          obtain ⟨xk, xu, xv⟩ := x
          dsimp only at r0 r1 r2
          go_wp2_with fail
          go_still_tail 10, (by kernel_rfl)
          change wpList _ _ _ _ _ U.drew
          go_wp2_with fail
          refine bodyPost_ret (v := .tuple #[.agg #[.int .i64 xk, .string xu, .string xv], .bool true, .int .i64 0]) (by simp [results, Try.results21, go_sem, z0, z1, z2]) rfl ?_
          have GG := grown_newset (i := 2) (x := .string xv) (grown_newset (i := 1) (x := .string xu) (grown_newset (i := 0) (x := .int .i64 xk) G2.out (Nat.le_succ _)) (Nat.le_succ _)) (Nat.le_succ _)
          refine move_end (x := ⟨xk, xu, xv⟩) H.out HP.out HWV.out (by first | exact GG | exact grown_drewB GG) ?_ Hlob.out Hll.out Hpp.out Hq.out Hmv.out.1 Hmv.out.2.1 Hmv.out.2.2
          have hbz : b ≠ W.heap.size + 1 := by have := Hbl.out; omega
          exact (Below.heap_setCell _ ⟨W.heap.size + 1, 2, none⟩ _ b hbz).trans ((Below.heap_setCell _ ⟨W.heap.size + 1, 1, none⟩ _ b hbz).trans ((Below.heap_setCell _ ⟨W.heap.size + 1, 0, none⟩ _ b hbz).trans F2.out))
    · -- how = 3b
      have pm : (p == -1) = false := beq_eq_false_iff_ne.2 hpm
      have Hpm := Lib.hid hpm
      go_enter Try.func21, Try.ntmps21
      go_upto_region 1 with fail
      rw [← HW0.out]
      go_upto_region 17 with fail
      obtain ⟨q, hq⟩ : ∃ q : Int, q = p + 1 := ⟨_, rfl⟩
      have Hq : Hid (q = mvQ l 3 p key) := Lib.hid (by rw [hq]; unfold mvQ; rw [if_neg (by decide), if_neg (by decide), if_pos rfl, if_neg Hpm.out])
      have F1 : Hid ((W0.setCell ⟨b, 1, none⟩ (.int .i64 (p + 1))).heap[b]? = some (.cells #[.slice va n vc, .int .i64 q] 85 (0, 0))) := Lib.hid (by rw [hq]; exact (blk_set HW00.out).trans rfl)
      have Z : Hid ((W0.setCell ⟨b, 1, none⟩ (.int .i64 (p + 1))).heap[W.heap.size + 1]? = some (.cells #[.int .i64 0, .string ⟨#[]⟩, .string ⟨#[]⟩] 40 (0, 0))) := Lib.hid ((Below.heap_setCell _ ⟨b, 1, none⟩ _ (W.heap.size + 1) (fun e => by have e2 : W.heap.size + 1 = b := e; have := Hbl.out; omega)).trans HZ0.out)
      have G : Hid (W.grownBy (W0.setCell ⟨b, 1, none⟩ (.int .i64 (p + 1))) (some b)) := Lib.hid (grown_atset G0.out)
      generalize W0.setCell ⟨b, 1, none⟩ (.int .i64 (p + 1)) = V at *
      clear w0 w1 fw1 m4 hlk hq
      have v0 := (cell_of_blk F1.out 0).trans (show _ = some (.slice va n vc) from rfl)
      have v1 := (cell_of_blk F1.out 1).trans (show _ = some (.int .i64 q) from rfl)
      have fv1 := frozen_of_blk F1.out 1
      have hOV : OwnO V (.slice va n vc) l := own_for HWo2.out (fun g cs fr hg => by
        refine (G.out.block g (blk_lt hg) (fun e => ?_)).trans hg
        injection e with e
        subst e
        rw [HWV.out] at hg
        cases hg)
      by_cases hq0 : q < 0
      · have hmv := mv_out (l := l) (q := q) (.inl hq0)
        have Hmv := Lib.hid hmv
        clear hmv hOV
        go_quiet (fail)
        rename_i nq
        have G2 : Hid (W.grownBy (V.drewN nq) (some b)) := Lib.hid (grown_more G.out (below_drewN (Below.refl _ _) nq))
        have F2 : Hid ((V.drewN nq).heap[b]? = some (.cells #[.slice va n vc, .int .i64 q] 85 (0, 0))) := Lib.hid F1.out
        have Z2 : Hid ((V.drewN nq).heap[W.heap.size + 1]? = some (.cells #[.int .i64 0, .string ⟨#[]⟩, .string ⟨#[]⟩] 40 (0, 0))) := Lib.hid Z.out
        generalize V.drewN nq = U at *
        clear v0 v1 fv1 F1 Z G
        have v1 := (cell_of_blk F2.out 1).trans (show _ = some (.int .i64 q) from rfl)
        have fv1 := frozen_of_blk F2.out 1
        have hbz : W.heap.size + 1 ≠ b := by have := Hbl.out; omega
        go_upto_region 19 with fail
        have G3 : Hid (W.grownBy (U.setCell ⟨b, 1, none⟩ (.int .i64 (-1))) (some b)) := Lib.hid (grown_atset G2.out)
        have F3 : Hid ((U.setCell ⟨b, 1, none⟩ (.int .i64 (-1))).heap[b]? = some (.cells #[.slice va n vc, .int .i64 (-1)] 85 (0, 0))) := Lib.hid ((blk_set F2.out).trans rfl)
        have Z3 : Hid ((U.setCell ⟨b, 1, none⟩ (.int .i64 (-1))).heap[W.heap.size + 1]? = some (.cells #[.int .i64 0, .string ⟨#[]⟩, .string ⟨#[]⟩] 40 (0, 0))) := Lib.hid ((Below.heap_setCell _ ⟨b, 1, none⟩ _ (W.heap.size + 1) hbz).trans Z2.out)
        generalize U.setCell ⟨b, 1, none⟩ (.int .i64 (-1)) = U2 at *
        clear v1 fv1 G2 F2 Z2 hbz
        have z0 := (cell_of_blk Z3.out 0).trans (show _ = some (.int .i64 0) from rfl)
        have z1 := (cell_of_blk Z3.out 1).trans (show _ = some (.string ⟨#[]⟩) from rfl)
        have z2 := (cell_of_blk Z3.out 2).trans (show _ = some (.string ⟨#[]⟩) from rfl)
        have f0 := frozen_of_blk Z3.out 0
        have f1 := frozen_of_blk Z3.out 1
        have f2 := frozen_of_blk Z3.out 2
        go_wp2_with fail
        refine bodyPost_ret (v := .tuple #[.agg #[.int .i64 0, .string ⟨#[]⟩, .string ⟨#[]⟩], .bool false, .int .i64 0]) (by simp [results, Try.results21, go_sem, z0, z1, z2]) rfl ?_
        refine move_end (x := Bo.nil) H.out HP.out HWV.out (grown_newset (grown_newset (grown_newset G3.out (Nat.le_succ _)) (Nat.le_succ _)) (Nat.le_succ _)) ?_ Hlob.out Hll.out Hpp.out Hq.out Hmv.out.1 Hmv.out.2.1 Hmv.out.2.2
        have hbz : b ≠ W.heap.size + 1 := by have := Hbl.out; omega
        exact (Below.heap_setCell _ ⟨W.heap.size + 1, 2, none⟩ _ b hbz).trans ((Below.heap_setCell _ ⟨W.heap.size + 1, 1, none⟩ _ b hbz).trans ((Below.heap_setCell _ ⟨W.heap.size + 1, 0, none⟩ _ b hbz).trans F3.out))
      · by_cases hqn : (n : Int) ≤ q
        · have hmv := mv_out (l := l) (q := q) (.inr (by rw [← Hn.out]; exact hqn))
          have Hmv := Lib.hid hmv
          clear hmv hOV
          go_quiet (fail)
          rename_i nq
          have G2 : Hid (W.grownBy (V.drewN nq) (some b)) := Lib.hid (grown_more G.out (below_drewN (Below.refl _ _) nq))
          have F2 : Hid ((V.drewN nq).heap[b]? = some (.cells #[.slice va n vc, .int .i64 q] 85 (0, 0))) := Lib.hid F1.out
          have Z2 : Hid ((V.drewN nq).heap[W.heap.size + 1]? = some (.cells #[.int .i64 0, .string ⟨#[]⟩, .string ⟨#[]⟩] 40 (0, 0))) := Lib.hid Z.out
          generalize V.drewN nq = U at *
          clear v0 v1 fv1 F1 Z G
          have v1 := (cell_of_blk F2.out 1).trans (show _ = some (.int .i64 q) from rfl)
          have fv1 := frozen_of_blk F2.out 1
          have hbz : W.heap.size + 1 ≠ b := by have := Hbl.out; omega
          go_upto_region 19 with fail
          have G3 : Hid (W.grownBy (U.setCell ⟨b, 1, none⟩ (.int .i64 (-1))) (some b)) := Lib.hid (grown_atset G2.out)
          have F3 : Hid ((U.setCell ⟨b, 1, none⟩ (.int .i64 (-1))).heap[b]? = some (.cells #[.slice va n vc, .int .i64 (-1)] 85 (0, 0))) := Lib.hid ((blk_set F2.out).trans rfl)
          have Z3 : Hid ((U.setCell ⟨b, 1, none⟩ (.int .i64 (-1))).heap[W.heap.size + 1]? = some (.cells #[.int .i64 0, .string ⟨#[]⟩, .string ⟨#[]⟩] 40 (0, 0))) := Lib.hid ((Below.heap_setCell _ ⟨b, 1, none⟩ _ (W.heap.size + 1) hbz).trans Z2.out)
          generalize U.setCell ⟨b, 1, none⟩ (.int .i64 (-1)) = U2 at *
          clear v1 fv1 G2 F2 Z2 hbz
          have z0 := (cell_of_blk Z3.out 0).trans (show _ = some (.int .i64 0) from rfl)
          have z1 := (cell_of_blk Z3.out 1).trans (show _ = some (.string ⟨#[]⟩) from rfl)
          have z2 := (cell_of_blk Z3.out 2).trans (show _ = some (.string ⟨#[]⟩) from rfl)
          have f0 := frozen_of_blk Z3.out 0
          have f1 := frozen_of_blk Z3.out 1
          have f2 := frozen_of_blk Z3.out 2
          go_wp2_with fail
          refine bodyPost_ret (v := .tuple #[.agg #[.int .i64 0, .string ⟨#[]⟩, .string ⟨#[]⟩], .bool false, .int .i64 0]) (by simp [results, Try.results21, go_sem, z0, z1, z2]) rfl ?_
          refine move_end (x := Bo.nil) H.out HP.out HWV.out (grown_newset (grown_newset (grown_newset G3.out (Nat.le_succ _)) (Nat.le_succ _)) (Nat.le_succ _)) ?_ Hlob.out Hll.out Hpp.out Hq.out Hmv.out.1 Hmv.out.2.1 Hmv.out.2.2
          have hbz : b ≠ W.heap.size + 1 := by have := Hbl.out; omega
          exact (Below.heap_setCell _ ⟨W.heap.size + 1, 2, none⟩ _ b hbz).trans ((Below.heap_setCell _ ⟨W.heap.size + 1, 1, none⟩ _ b hbz).trans ((Below.heap_setCell _ ⟨W.heap.size + 1, 0, none⟩ _ b hbz).trans F3.out))
        · obtain ⟨i, rfl⟩ : ∃ i : Nat, q = (i : Int) := ⟨q.toNat, by omega⟩
          have hin : i < n := by omega
          obtain ⟨x, hx⟩ : ∃ x, l[i]? = some x := ⟨_, List.getElem?_eq_getElem (by rw [← Hn.out]; exact hin)⟩
          have hmv := mv_in hx
          have Hmv := Lib.hid hmv
          have hos := hOV.isOs
          obtain ⟨-, hc, hm, hxx⟩ := hos.at
          obtain ⟨bo, off, rfl, hcell⟩ := hxx (by omega)
          have hro := fun (X : World) (hX : Below V.heap.size V X) => IsOs.row (w := X) (fun i x hi j y hj => (hX.cell (block_lt_of_cell (hcell i x hi j y hj))).trans (hcell i x hi j y hj)) hx
          have Hro := Lib.hid hro
          have hin2 : (i : Int) < (n : Int) := by omega
          clear hmv hOV hos hxx hcell hx hro
          go_quiet (fail)
          rename_i nq
          have G2 : Hid (W.grownBy (V.drewN nq) (some b)) := Lib.hid (grown_more G.out (below_drewN (Below.refl _ _) nq))
          have F2 : Hid ((V.drewN nq).heap[b]? = some (.cells #[.slice (some ⟨bo, off, none⟩) n vc, .int .i64 i] 85 (0, 0))) := Lib.hid F1.out
          have Z2 : Hid ((V.drewN nq).heap[W.heap.size + 1]? = some (.cells #[.int .i64 0, .string ⟨#[]⟩, .string ⟨#[]⟩] 40 (0, 0))) := Lib.hid Z.out
          obtain ⟨r0, r1, r2⟩ := Hro.out (V.drewN nq) (below_drewN (Below.refl _ _) nq)
          generalize V.drewN nq = U at *
          clear v0 v1 fv1 Hro F1 Z G
          have v0 := (cell_of_blk F2.out 0).trans (show _ = some (.slice (some ⟨bo, off, none⟩) n vc) from rfl)
          have v1 := (cell_of_blk F2.out 1).trans (show _ = some (.int .i64 i) from rfl)
          have z0 := (cell_of_blk Z2.out 0).trans (show _ = some (.int .i64 0) from rfl)
          have z1 := (cell_of_blk Z2.out 1).trans (show _ = some (.string ⟨#[]⟩) from rfl)
          have z2 := (cell_of_blk Z2.out 2).trans (show _ = some (.string ⟨#[]⟩) from rfl)
          have f0 := frozen_of_blk Z2.out 0
          have f1 := frozen_of_blk Z2.out 1
          have f2 := frozen_of_blk Z2.out 2
          obtain ⟨xk, xu, xv⟩ := x
          dsimp only at r0 r1 r2
          go_wp2_with fail
          go_still_tail 10, (by kernel_rfl)
          change wpList _ _ _ _ _ U.drew
          go_wp2_with fail
          refine bodyPost_ret (v := .tuple #[.agg #[.int .i64 xk, .string xu, .string xv], .bool true, .int .i64 0]) (by simp [results, Try.results21, go_sem, z0, z1, z2]) rfl ?_
          have GG := grown_newset (i := 2) (x := .string xv) (grown_newset (i := 1) (x := .string xu) (grown_newset (i := 0) (x := .int .i64 xk) G2.out (Nat.le_succ _)) (Nat.le_succ _)) (Nat.le_succ _)
          refine move_end (x := ⟨xk, xu, xv⟩) H.out HP.out HWV.out (by first | exact GG | exact grown_drewB GG) ?_ Hlob.out Hll.out Hpp.out Hq.out Hmv.out.1 Hmv.out.2.1 Hmv.out.2.2
          have hbz : b ≠ W.heap.size + 1 := by have := Hbl.out; omega
          exact (Below.heap_setCell _ ⟨W.heap.size + 1, 2, none⟩ _ b hbz).trans ((Below.heap_setCell _ ⟨W.heap.size + 1, 1, none⟩ _ b hbz).trans ((Below.heap_setCell _ ⟨W.heap.size + 1, 0, none⟩ _ b hbz).trans F2.out))
  · by_cases hpm : p = -1
    · -- how = 4a
      have pm : (p == -1) = true := by rw [hpm]; rfl
      have Hpm := Lib.hid hpm
      go_enter Try.func21, Try.ntmps21
      go_upto_region 1 with fail
      rw [← HW0.out]
      go_upto_region 17 with fail
      obtain ⟨q, hq⟩ : ∃ q : Int, q = -1 := ⟨_, rfl⟩
      have Hq : Hid (q = mvQ l 4 p key) := Lib.hid (by rw [hq, Hpm.out]; rfl)
      have F1 : Hid (W0.heap[b]? = some (.cells #[.slice va n vc, .int .i64 q] 85 (0, 0))) := Lib.hid (by rw [hq, ← Hpm.out]; exact HW00.out)
      have Z := HZ0
      have G := G0
      obtain ⟨V, hV⟩ : ∃ V, V = W0 := ⟨_, rfl⟩
      rw [← hV] at F1 Z G ⊢
      clear w0 w1 fw1 m4 hlk hq hV
      have v0 := (cell_of_blk F1.out 0).trans (show _ = some (.slice va n vc) from rfl)
      have v1 := (cell_of_blk F1.out 1).trans (show _ = some (.int .i64 q) from rfl)
      have fv1 := frozen_of_blk F1.out 1
      have hOV : OwnO V (.slice va n vc) l := own_for HWo2.out (fun g cs fr hg => by
        refine (G.out.block g (blk_lt hg) (fun e => ?_)).trans hg
        injection e with e
        subst e
        rw [HWV.out] at hg
        cases hg)
      by_cases hq0 : q < 0
      · have hmv := mv_out (l := l) (q := q) (.inl hq0)
        have Hmv := Lib.hid hmv
        clear hmv hOV
        go_quiet (fail)
        rename_i nq
        have G2 : Hid (W.grownBy (V.drewN nq) (some b)) := Lib.hid (grown_more G.out (below_drewN (Below.refl _ _) nq))
        have F2 : Hid ((V.drewN nq).heap[b]? = some (.cells #[.slice va n vc, .int .i64 q] 85 (0, 0))) := Lib.hid F1.out
        have Z2 : Hid ((V.drewN nq).heap[W.heap.size + 1]? = some (.cells #[.int .i64 0, .string ⟨#[]⟩, .string ⟨#[]⟩] 40 (0, 0))) := Lib.hid Z.out
        generalize V.drewN nq = U at *
        clear v0 v1 fv1 F1 Z G
        have v1 := (cell_of_blk F2.out 1).trans (show _ = some (.int .i64 q) from rfl)
        have fv1 := frozen_of_blk F2.out 1
        have hbz : W.heap.size + 1 ≠ b := by have := Hbl.out; omega
        go_upto_region 19 with fail
        have G3 : Hid (W.grownBy (U.setCell ⟨b, 1, none⟩ (.int .i64 (-1))) (some b)) := Lib.hid (grown_atset G2.out)
        have F3 : Hid ((U.setCell ⟨b, 1, none⟩ (.int .i64 (-1))).heap[b]? = some (.cells #[.slice va n vc, .int .i64 (-1)] 85 (0, 0))) := Lib.hid ((blk_set F2.out).trans rfl)
        have Z3 : Hid ((U.setCell ⟨b, 1, none⟩ (.int .i64 (-1))).heap[W.heap.size + 1]? = some (.cells #[.int .i64 0, .string ⟨#[]⟩, .string ⟨#[]⟩] 40 (0, 0))) := Lib.hid ((Below.heap_setCell _ ⟨b, 1, none⟩ _ (W.heap.size + 1) hbz).trans Z2.out)
        generalize U.setCell ⟨b, 1, none⟩ (.int .i64 (-1)) = U2 at *
        clear v1 fv1 G2 F2 Z2 hbz
        have z0 := (cell_of_blk Z3.out 0).trans (show _ = some (.int .i64 0) from rfl)
        have z1 := (cell_of_blk Z3.out 1).trans (show _ = some (.string ⟨#[]⟩) from rfl)
        have z2 := (cell_of_blk Z3.out 2).trans (show _ = some (.string ⟨#[]⟩) from rfl)
        have f0 := frozen_of_blk Z3.out 0
        have f1 := frozen_of_blk Z3.out 1
        have f2 := frozen_of_blk Z3.out 2
        go_wp2_with fail
        refine bodyPost_ret (v := .tuple #[.agg #[.int .i64 0, .string ⟨#[]⟩, .string ⟨#[]⟩], .bool false, .int .i64 0]) (by simp [results, Try.results21, go_sem, z0, z1, z2]) rfl ?_
        refine move_end (x := Bo.nil) H.out HP.out HWV.out (grown_newset (grown_newset (grown_newset G3.out (Nat.le_succ _)) (Nat.le_succ _)) (Nat.le_succ _)) ?_ Hlob.out Hll.out Hpp.out Hq.out Hmv.out.1 Hmv.out.2.1 Hmv.out.2.2
        have hbz : b ≠ W.heap.size + 1 := by have := Hbl.out; omega
        exact (Below.heap_setCell _ ⟨W.heap.size + 1, 2, none⟩ _ b hbz).trans ((Below.heap_setCell _ ⟨W.heap.size + 1, 1, none⟩ _ b hbz).trans ((Below.heap_setCell _ ⟨W.heap.size + 1, 0, none⟩ _ b hbz).trans F3.out))
      · by_cases hqn : (n : Int) ≤ q
        · have hmv := mv_out (l := l) (q := q) (.inr (by rw [← Hn.out]; exact hqn))
          have Hmv := Lib.hid hmv
          clear hmv hOV
          go_quiet (fail)
          rename_i nq
          have G2 : Hid (W.grownBy (V.drewN nq) (some b)) := Lib.hid (grown_more G.out (below_drewN (Below.refl _ _) nq))
          have F2 : Hid ((V.drewN nq).heap[b]? = some (.cells #[.slice va n vc, .int .i64 q] 85 (0, 0))) := Lib.hid F1.out
          have Z2 : Hid ((V.drewN nq).heap[W.heap.size + 1]? = some (.cells #[.int .i64 0, .string ⟨#[]⟩, .string ⟨#[]⟩] 40 (0, 0))) := Lib.hid Z.out
          generalize V.drewN nq = U at *
          clear v0 v1 fv1 F1 Z G
          have v1 := (cell_of_blk F2.out 1).trans (show _ = some (.int .i64 q) from rfl)
          have fv1 := frozen_of_blk F2.out 1
          have hbz : W.heap.size + 1 ≠ b := by have := Hbl.out; omega
          go_upto_region 19 with fail
          have G3 : Hid (W.grownBy (U.setCell ⟨b, 1, none⟩ (.int .i64 (-1))) (some b)) := Lib.hid (grown_atset G2.out)
          have F3 : Hid ((U.setCell ⟨b, 1, none⟩ (.int .i64 (-1))).heap[b]? = some (.cells #[.slice va n vc, .int .i64 (-1)] 85 (0, 0))) := Lib.hid ((blk_set F2.out).trans rfl)
          have Z3 : Hid ((U.setCell ⟨b, 1, none⟩ (.int .i64 (-1))).heap[W.heap.size + 1]? = some (.cells #[.int .i64 0, .string ⟨#[]⟩, .string ⟨#[]⟩] 40 (0, 0))) := Lib.hid ((Below.heap_setCell _ ⟨b, 1, none⟩ _ (W.heap.size + 1) hbz).trans Z2.out)
          generalize U.setCell ⟨b, 1, none⟩ (.int .i64 (-1)) = U2 at *
          clear v1 fv1 G2 F2 Z2 hbz
          have z0 := (cell_of_blk Z3.out 0).trans (show _ = some (.int .i64 0) from rfl)
          have z1 := (cell_of_blk Z3.out 1).trans (show _ = some (.string ⟨#[]⟩) from rfl)
          have z2 := (cell_of_blk Z3.out 2).trans (show _ = some (.string ⟨#[]⟩) from rfl)
          have f0 := frozen_of_blk Z3.out 0
          have f1 := frozen_of_blk Z3.out 1
          have f2 := frozen_of_blk Z3.out 2
          go_wp2_with fail
          refine bodyPost_ret (v := .tuple #[.agg #[.int .i64 0, .string ⟨#[]⟩, .string ⟨#[]⟩], .bool false, .int .i64 0]) (by simp [results, Try.results21, go_sem, z0, z1, z2]) rfl ?_
          refine move_end (x := Bo.nil) H.out HP.out HWV.out (grown_newset (grown_newset (grown_newset G3.out (Nat.le_succ _)) (Nat.le_succ _)) (Nat.le_succ _)) ?_ Hlob.out Hll.out Hpp.out Hq.out Hmv.out.1 Hmv.out.2.1 Hmv.out.2.2
          have hbz : b ≠ W.heap.size + 1 := by have := Hbl.out; omega
          exact (Below.heap_setCell _ ⟨W.heap.size + 1, 2, none⟩ _ b hbz).trans ((Below.heap_setCell _ ⟨W.heap.size + 1, 1, none⟩ _ b hbz).trans ((Below.heap_setCell _ ⟨W.heap.size + 1, 0, none⟩ _ b hbz).trans F3.out))
        · obtain ⟨i, rfl⟩ : ∃ i : Nat, q = (i : Int) := ⟨q.toNat, by omega⟩
          have hin : i < n := by omega
          obtain ⟨x, hx⟩ : ∃ x, l[i]? = some x := ⟨_, List.getElem?_eq_getElem (by rw [← Hn.out]; exact hin)⟩
          have hmv := mv_in hx
          have Hmv := Lib.hid hmv
          have hos := hOV.isOs
          obtain ⟨-, hc, hm, hxx⟩ := hos.at
          obtain ⟨bo, off, rfl, hcell⟩ := hxx (by omega)
          have hro := fun (X : World) (hX : Below V.heap.size V X) => IsOs.row (w := X) (fun i x hi j y hj => (hX.cell (block_lt_of_cell (hcell i x hi j y hj))).trans (hcell i x hi j y hj)) hx
          have Hro := Lib.hid hro
          have hin2 : (i : Int) < (n : Int) := by omega
          clear hmv hOV hos hxx hcell hx hro
          go_quiet (fail)
          rename_i nq
          have G2 : Hid (W.grownBy (V.drewN nq) (some b)) := Lib.hid (grown_more G.out (below_drewN (Below.refl _ _) nq))
          have F2 : Hid ((V.drewN nq).heap[b]? = some (.cells #[.slice (some ⟨bo, off, none⟩) n vc, .int .i64 i] 85 (0, 0))) := Lib.hid F1.out
          have Z2 : Hid ((V.drewN nq).heap[W.heap.size + 1]? = some (.cells #[.int .i64 0, .string ⟨#[]⟩, .string ⟨#[]⟩] 40 (0, 0))) := Lib.hid Z.out
          obtain ⟨r0, r1, r2⟩ := Hro.out (V.drewN nq) (below_drewN (Below.refl _ _) nq)
          generalize V.drewN nq = U at *
          clear v0 v1 fv1 Hro F1 Z G
          have v0 := (cell_of_blk F2.out 0).trans (show _ = some (.slice (some ⟨bo, off, none⟩) n vc) from rfl)
          have v1 := (cell_of_blk F2.out 1).trans (show _ = some (.int .i64 i) from rfl)
          have z0 := (cell_of_blk Z2.out 0).trans (show _ = some (.int .i64 0) from rfl)
          have z1 := (cell_of_blk Z2.out 1).trans (show _ = some (.string ⟨#[]⟩) from rfl)
          have z2 := (cell_of_blk Z2.out 2).trans (show _ = some (.string ⟨#[]⟩) from rfl)
          have f0 := frozen_of_blk Z2.out 0
          have f1 := frozen_of_blk Z2.out 1
          have f2 := frozen_of_blk Z2.out 2
          obtain ⟨xk, xu, xv⟩ := x
          dsimp only at r0 r1 r2
          go_wp2_with fail
          go_still_tail 10, (by kernel_rfl)
          change wpList _ _ _ _ _ U.drew
          go_wp2_with fail
          refine bodyPost_ret (v := .tuple #[.agg #[.int .i64 xk, .string xu, .string xv], .bool true, .int .i64 0]) (by simp [results, Try.results21, go_sem, z0, z1, z2]) rfl ?_
          have GG := grown_newset (i := 2) (x := .string xv) (grown_newset (i := 1) (x := .string xu) (grown_newset (i := 0) (x := .int .i64 xk) G2.out (Nat.le_succ _)) (Nat.le_succ _)) (Nat.le_succ _)
          refine move_end (x := ⟨xk, xu, xv⟩) H.out HP.out HWV.out (by first | exact GG | exact grown_drewB GG) ?_ Hlob.out Hll.out Hpp.out Hq.out Hmv.out.1 Hmv.out.2.1 Hmv.out.2.2
          have hbz : b ≠ W.heap.size + 1 := by have := Hbl.out; omega
          exact (Below.heap_setCell _ ⟨W.heap.size + 1, 2, none⟩ _ b hbz).trans ((Below.heap_setCell _ ⟨W.heap.size + 1, 1, none⟩ _ b hbz).trans ((Below.heap_setCell _ ⟨W.heap.size + 1, 0, none⟩ _ b hbz).trans F2.out))
    · -- how = 4b
      have pm : (p == -1) = false := beq_eq_false_iff_ne.2 hpm
      have Hpm := Lib.hid hpm
      go_enter Try.func21, Try.ntmps21
      go_upto_region 1 with fail
      rw [← HW0.out]
      go_upto_region 17 with fail
      obtain ⟨q, hq⟩ : ∃ q : Int, q = p - 1 := ⟨_, rfl⟩
      have Hq : Hid (q = mvQ l 4 p key) := Lib.hid (by rw [hq]; unfold mvQ; rw [if_neg (by decide), if_neg (by decide), if_neg (by decide), if_pos rfl, if_neg Hpm.out])
      have F1 : Hid ((W0.setCell ⟨b, 1, none⟩ (.int .i64 (p - 1))).heap[b]? = some (.cells #[.slice va n vc, .int .i64 q] 85 (0, 0))) := Lib.hid (by rw [hq]; exact (blk_set HW00.out).trans rfl)
      have Z : Hid ((W0.setCell ⟨b, 1, none⟩ (.int .i64 (p - 1))).heap[W.heap.size + 1]? = some (.cells #[.int .i64 0, .string ⟨#[]⟩, .string ⟨#[]⟩] 40 (0, 0))) := Lib.hid ((Below.heap_setCell _ ⟨b, 1, none⟩ _ (W.heap.size + 1) (fun e => by have e2 : W.heap.size + 1 = b := e; have := Hbl.out; omega)).trans HZ0.out)
      have G : Hid (W.grownBy (W0.setCell ⟨b, 1, none⟩ (.int .i64 (p - 1))) (some b)) := Lib.hid (grown_atset G0.out)
      generalize W0.setCell ⟨b, 1, none⟩ (.int .i64 (p - 1)) = V at *
      clear w0 w1 fw1 m4 hlk hq
      have v0 := (cell_of_blk F1.out 0).trans (show _ = some (.slice va n vc) from rfl)
      have v1 := (cell_of_blk F1.out 1).trans (show _ = some (.int .i64 q) from rfl)
      have fv1 := frozen_of_blk F1.out 1
      have hOV : OwnO V (.slice va n vc) l := own_for HWo2.out (fun g cs fr hg => by
        refine (G.out.block g (blk_lt hg) (fun e => ?_)).trans hg
        injection e with e
        subst e
        rw [HWV.out] at hg
        cases hg)
      by_cases hq0 : q < 0
      · have hmv := mv_out (l := l) (q := q) (.inl hq0)
        have Hmv := Lib.hid hmv
        clear hmv hOV
        go_quiet (fail)
        rename_i nq
        have G2 : Hid (W.grownBy (V.drewN nq) (some b)) := Lib.hid (grown_more G.out (below_drewN (Below.refl _ _) nq))
        have F2 : Hid ((V.drewN nq).heap[b]? = some (.cells #[.slice va n vc, .int .i64 q] 85 (0, 0))) := Lib.hid F1.out
        have Z2 : Hid ((V.drewN nq).heap[W.heap.size + 1]? = some (.cells #[.int .i64 0, .string ⟨#[]⟩, .string ⟨#[]⟩] 40 (0, 0))) := Lib.hid Z.out
        generalize V.drewN nq = U at *
        clear v0 v1 fv1 F1 Z G
        have v1 := (cell_of_blk F2.out 1).trans (show _ = some (.int .i64 q) from rfl)
        have fv1 := frozen_of_blk F2.out 1
        have hbz : W.heap.size + 1 ≠ b := by have := Hbl.out; omega
        go_upto_region 19 with fail
        have G3 : Hid (W.grownBy (U.setCell ⟨b, 1, none⟩ (.int .i64 (-1))) (some b)) := Lib.hid (grown_atset G2.out)
        have F3 : Hid ((U.setCell ⟨b, 1, none⟩ (.int .i64 (-1))).heap[b]? = some (.cells #[.slice va n vc, .int .i64 (-1)] 85 (0, 0))) := Lib.hid ((blk_set F2.out).trans rfl)
        have Z3 : Hid ((U.setCell ⟨b, 1, none⟩ (.int .i64 (-1))).heap[W.heap.size + 1]? = some (.cells #[.int .i64 0, .string ⟨#[]⟩, .string ⟨#[]⟩] 40 (0, 0))) := Lib.hid ((Below.heap_setCell _ ⟨b, 1, none⟩ _ (W.heap.size + 1) hbz).trans Z2.out)
        generalize U.setCell ⟨b, 1, none⟩ (.int .i64 (-1)) = U2 at *
        clear v1 fv1 G2 F2 Z2 hbz
        have z0 := (cell_of_blk Z3.out 0).trans (show _ = some (.int .i64 0) from rfl)
        have z1 := (cell_of_blk Z3.out 1).trans (show _ = some (.string ⟨#[]⟩) from rfl)
        have z2 := (cell_of_blk Z3.out 2).trans (show _ = some (.string ⟨#[]⟩) from rfl)
        have f0 := frozen_of_blk Z3.out 0
        have f1 := frozen_of_blk Z3.out 1
        have f2 := frozen_of_blk Z3.out 2
        go_wp2_with fail
        refine bodyPost_ret (v := .tuple #[.agg #[.int .i64 0, .string ⟨#[]⟩, .string ⟨#[]⟩], .bool false, .int .i64 0]) (by simp [results, Try.results21, go_sem, z0, z1, z2]) rfl ?_
        refine move_end (x := Bo.nil) H.out HP.out HWV.out (grown_newset (grown_newset (grown_newset G3.out (Nat.le_succ _)) (Nat.le_succ _)) (Nat.le_succ _)) ?_ Hlob.out Hll.out Hpp.out Hq.out Hmv.out.1 Hmv.out.2.1 Hmv.out.2.2
        have hbz : b ≠ W.heap.size + 1 := by have := Hbl.out; omega
        exact (Below.heap_setCell _ ⟨W.heap.size + 1, 2, none⟩ _ b hbz).trans ((Below.heap_setCell _ ⟨W.heap.size + 1, 1, none⟩ _ b hbz).trans ((Below.heap_setCell _ ⟨W.heap.size + 1, 0, none⟩ _ b hbz).trans F3.out))
      · by_cases hqn : (n : Int) ≤ q
        · have hmv := mv_out (l := l) (q := q) (.inr (by rw [← Hn.out]; exact hqn))
          have Hmv := Lib.hid hmv
          clear hmv hOV
          go_quiet (fail)
          rename_i nq
          have G2 : Hid (W.grownBy (V.drewN nq) (some b)) := Lib.hid (grown_more G.out (below_drewN (Below.refl _ _) nq))
          have F2 : Hid ((V.drewN nq).heap[b]? = some (.cells #[.slice va n vc, .int .i64 q] 85 (0, 0))) := Lib.hid F1.out
          have Z2 : Hid ((V.drewN nq).heap[W.heap.size + 1]? = some (.cells #[.int .i64 0, .string ⟨#[]⟩, .string ⟨#[]⟩] 40 (0, 0))) := Lib.hid Z.out
          generalize V.drewN nq = U at *
          clear v0 v1 fv1 F1 Z G
          have v1 := (cell_of_blk F2.out 1).trans (show _ = some (.int .i64 q) from rfl)
          have fv1 := frozen_of_blk F2.out 1
          have hbz : W.heap.size + 1 ≠ b := by have := Hbl.out; omega
          go_upto_region 19 with fail
          have G3 : Hid (W.grownBy (U.setCell ⟨b, 1, none⟩ (.int .i64 (-1))) (some b)) := Lib.hid (grown_atset G2.out)
          have F3 : Hid ((U.setCell ⟨b, 1, none⟩ (.int .i64 (-1))).heap[b]? = some (.cells #[.slice va n vc, .int .i64 (-1)] 85 (0, 0))) := Lib.hid ((blk_set F2.out).trans rfl)
          have Z3 : Hid ((U.setCell ⟨b, 1, none⟩ (.int .i64 (-1))).heap[W.heap.size + 1]? = some (.cells #[.int .i64 0, .string ⟨#[]⟩, .string ⟨#[]⟩] 40 (0, 0))) := Lib.hid ((Below.heap_setCell _ ⟨b, 1, none⟩ _ (W.heap.size + 1) hbz).trans Z2.out)
          generalize U.setCell ⟨b, 1, none⟩ (.int .i64 (-1)) = U2 at *
          clear v1 fv1 G2 F2 Z2 hbz
          have z0 := (cell_of_blk Z3.out 0).trans (show _ = some (.int .i64 0) from rfl)
          have z1 := (cell_of_blk Z3.out 1).trans (show _ = some (.string ⟨#[]⟩) from rfl)
          have z2 := (cell_of_blk Z3.out 2).trans (show _ = some (.string ⟨#[]⟩) from rfl)
          have f0 := frozen_of_blk Z3.out 0
          have f1 := frozen_of_blk Z3.out 1
          have f2 := frozen_of_blk Z3.out 2
          go_wp2_with fail
          refine bodyPost_ret (v := .tuple #[.agg #[.int .i64 0, .string ⟨#[]⟩, .string ⟨#[]⟩], .bool false, .int .i64 0]) (by simp [results, Try.results21, go_sem, z0, z1, z2]) rfl ?_
          refine move_end (x := Bo.nil) H.out HP.out HWV.out (grown_newset (grown_newset (grown_newset G3.out (Nat.le_succ _)) (Nat.le_succ _)) (Nat.le_succ _)) ?_ Hlob.out Hll.out Hpp.out Hq.out Hmv.out.1 Hmv.out.2.1 Hmv.out.2.2
          have hbz : b ≠ W.heap.size + 1 := by have := Hbl.out; omega
          exact (Below.heap_setCell _ ⟨W.heap.size + 1, 2, none⟩ _ b hbz).trans ((Below.heap_setCell _ ⟨W.heap.size + 1, 1, none⟩ _ b hbz).trans ((Below.heap_setCell _ ⟨W.heap.size + 1, 0, none⟩ _ b hbz).trans F3.out))
        · obtain ⟨i, rfl⟩ : ∃ i : Nat, q = (i : Int) := ⟨q.toNat, by omega⟩
          have hin : i < n := by omega
          obtain ⟨x, hx⟩ : ∃ x, l[i]? = some x := ⟨_, List.getElem?_eq_getElem (by rw [← Hn.out]; exact hin)⟩
          have hmv := mv_in hx
          have Hmv := Lib.hid hmv
          have hos := hOV.isOs
          obtain ⟨-, hc, hm, hxx⟩ := hos.at
          obtain ⟨bo, off, rfl, hcell⟩ := hxx (by omega)
          have hro := fun (X : World) (hX : Below V.heap.size V X) => IsOs.row (w := X) (fun i x hi j y hj => (hX.cell (block_lt_of_cell (hcell i x hi j y hj))).trans (hcell i x hi j y hj)) hx
          have Hro := Lib.hid hro
          have hin2 : (i : Int) < (n : Int) := by omega
          clear hmv hOV hos hxx hcell hx hro
          go_quiet (fail)
          rename_i nq
          have G2 : Hid (W.grownBy (V.drewN nq) (some b)) := Lib.hid (grown_more G.out (below_drewN (Below.refl _ _) nq))
          have F2 : Hid ((V.drewN nq).heap[b]? = some (.cells #[.slice (some ⟨bo, off, none⟩) n vc, .int .i64 i] 85 (0, 0))) := Lib.hid F1.out
          have Z2 : Hid ((V.drewN nq).heap[W.heap.size + 1]? = some (.cells #[.int .i64 0, .string ⟨#[]⟩, .string ⟨#[]⟩] 40 (0, 0))) := Lib.hid Z.out
          obtain ⟨r0, r1, r2⟩ := Hro.out (V.drewN nq) (below_drewN (Below.refl _ _) nq)
          generalize V.drewN nq = U at *
          clear v0 v1 fv1 Hro F1 Z G
          have v0 := (cell_of_blk F2.out 0).trans (show _ = some (.slice (some ⟨bo, off, none⟩) n vc) from rfl)
          have v1 := (cell_of_blk F2.out 1).trans (show _ = some (.int .i64 i) from rfl)
          have z0 := (cell_of_blk Z2.out 0).trans (show _ = some (.int .i64 0) from rfl)
          have z1 := (cell_of_blk Z2.out 1).trans (show _ = some (.string ⟨#[]⟩) from rfl)
          have z2 := (cell_of_blk Z2.out 2).trans (show _ = some (.string ⟨#[]⟩) from rfl)
          have f0 := frozen_of_blk Z2.out 0
          have f1 := frozen_of_blk Z2.out 1
          have f2 := frozen_of_blk Z2.out 2
          obtain ⟨xk, xu, xv⟩ := x
          dsimp only at r0 r1 r2
          go_wp2_with fail
          go_still_tail 10, (by kernel_rfl)
          change wpList _ _ _ _ _ U.drew
          go_wp2_with fail
          refine bodyPost_ret (v := .tuple #[.agg #[.int .i64 xk, .string xu, .string xv], .bool true, .int .i64 0]) (by simp [results, Try.results21, go_sem, z0, z1, z2]) rfl ?_
          have GG := grown_newset (i := 2) (x := .string xv) (grown_newset (i := 1) (x := .string xu) (grown_newset (i := 0) (x := .int .i64 xk) G2.out (Nat.le_succ _)) (Nat.le_succ _)) (Nat.le_succ _)
          refine move_end (x := ⟨xk, xu, xv⟩) H.out HP.out HWV.out (by first | exact GG | exact grown_drewB GG) ?_ Hlob.out Hll.out Hpp.out Hq.out Hmv.out.1 Hmv.out.2.1 Hmv.out.2.2
          have hbz : b ≠ W.heap.size + 1 := by have := Hbl.out; omega
          exact (Below.heap_setCell _ ⟨W.heap.size + 1, 2, none⟩ _ b hbz).trans ((Below.heap_setCell _ ⟨W.heap.size + 1, 1, none⟩ _ b hbz).trans ((Below.heap_setCell _ ⟨W.heap.size + 1, 0, none⟩ _ b hbz).trans F2.out))
  · -- how = 5
    have HIx := Lib.hid (fun (X : World) (hX : Below W0.heap.size W0 X) => oindex_mem 39 (.pointer (some ⟨W.heap.size, 0, none⟩)) (geP key) (.slice va n vc) l X (OwnO.isOs (show OwnO X (.slice va n vc) l from own_for HWo2.out (fun g cs fr hg => blk_bels (Hb0.out.trans (hX.mono Hb0.out.size)) hg))) (enters_of Try.func39 (by kernel_rfl) rfl)
      (fun k u val Y hm hY => move1_any k u val key W.heap.size Y (by rw [cell_of_blk (blk_bels (hX.trans (hY.mono hX.size)) HK0.out)]; rfl)))
    go_enter Try.func21, Try.ntmps21
    go_upto_region 1 with fail
    rw [← HW0.out]
    go_wp2_with fail
    refine (HIx.out _ (Below.refl _ _)).mono ?_
    rintro e W5 ⟨rfl, hb5⟩
    have HW5 := Lib.hid (blk_bels hb5 HW00.out)
    have HZ5 := Lib.hid (blk_bels hb5 HZ0.out)
    have G5 := Lib.hid (grown_more G0.out hb5)
    have w0 := (cell_of_blk HW5.out 0).trans (show _ = some (.slice va n vc) from rfl)
    have w1 := (cell_of_blk HW5.out 1).trans (show _ = some (.int .i64 p) from rfl)
    have fw1 := frozen_of_blk HW5.out 1
    clear m4 hlk hb5 HIx
    go_upto_region 17 with fail
    obtain ⟨q, hq⟩ : ∃ q : Int, q = idxO l (geP key) := ⟨_, rfl⟩
    have Hq : Hid (q = mvQ l 5 p key) := Lib.hid (by rw [hq]; rfl)
    have F1 : Hid ((W5.setCell ⟨b, 1, none⟩ (.int .i64 (idxO l (geP key)))).heap[b]? = some (.cells #[.slice va n vc, .int .i64 q] 85 (0, 0))) := Lib.hid (by rw [hq]; exact (blk_set HW5.out).trans rfl)
    have Z : Hid ((W5.setCell ⟨b, 1, none⟩ (.int .i64 (idxO l (geP key)))).heap[W.heap.size + 1]? = some (.cells #[.int .i64 0, .string ⟨#[]⟩, .string ⟨#[]⟩] 40 (0, 0))) := Lib.hid ((Below.heap_setCell _ ⟨b, 1, none⟩ _ (W.heap.size + 1) (fun e => by have e2 : W.heap.size + 1 = b := e; have := Hbl.out; omega)).trans HZ5.out)
    have G : Hid (W.grownBy (W5.setCell ⟨b, 1, none⟩ (.int .i64 (idxO l (geP key)))) (some b)) := Lib.hid (grown_atset G5.out)
    generalize W5.setCell ⟨b, 1, none⟩ (.int .i64 (idxO l (geP key))) = V at *
    clear w0 w1 fw1 hq
    have v0 := (cell_of_blk F1.out 0).trans (show _ = some (.slice va n vc) from rfl)
    have v1 := (cell_of_blk F1.out 1).trans (show _ = some (.int .i64 q) from rfl)
    have fv1 := frozen_of_blk F1.out 1
    have hOV : OwnO V (.slice va n vc) l := own_for HWo2.out (fun g cs fr hg => by
      refine (G.out.block g (blk_lt hg) (fun e => ?_)).trans hg
      injection e with e
      subst e
      rw [HWV.out] at hg
      cases hg)
    by_cases hq0 : q < 0
    · have hmv := mv_out (l := l) (q := q) (.inl hq0)
      have Hmv := Lib.hid hmv
      clear hmv hOV
      go_quiet (fail)
      rename_i nq
      have G2 : Hid (W.grownBy (V.drewN nq) (some b)) := Lib.hid (grown_more G.out (below_drewN (Below.refl _ _) nq))
      have F2 : Hid ((V.drewN nq).heap[b]? = some (.cells #[.slice va n vc, .int .i64 q] 85 (0, 0))) := Lib.hid F1.out
      have Z2 : Hid ((V.drewN nq).heap[W.heap.size + 1]? = some (.cells #[.int .i64 0, .string ⟨#[]⟩, .string ⟨#[]⟩] 40 (0, 0))) := Lib.hid Z.out
      generalize V.drewN nq = U at *
      clear v0 v1 fv1 F1 Z G
      have v1 := (cell_of_blk F2.out 1).trans (show _ = some (.int .i64 q) from rfl)
      have fv1 := frozen_of_blk F2.out 1
      have hbz : W.heap.size + 1 ≠ b := by have := Hbl.out; omega
      go_upto_region 19 with fail
      have G3 : Hid (W.grownBy (U.setCell ⟨b, 1, none⟩ (.int .i64 (-1))) (some b)) := Lib.hid (grown_atset G2.out)
      have F3 : Hid ((U.setCell ⟨b, 1, none⟩ (.int .i64 (-1))).heap[b]? = some (.cells #[.slice va n vc, .int .i64 (-1)] 85 (0, 0))) := Lib.hid ((blk_set F2.out).trans rfl)
      have Z3 : Hid ((U.setCell ⟨b, 1, none⟩ (.int .i64 (-1))).heap[W.heap.size + 1]? = some (.cells #[.int .i64 0, .string ⟨#[]⟩, .string ⟨#[]⟩] 40 (0, 0))) := Lib.hid ((Below.heap_setCell _ ⟨b, 1, none⟩ _ (W.heap.size + 1) hbz).trans Z2.out)
      generalize U.setCell ⟨b, 1, none⟩ (.int .i64 (-1)) = U2 at *
      clear v1 fv1 G2 F2 Z2 hbz
      have z0 := (cell_of_blk Z3.out 0).trans (show _ = some (.int .i64 0) from rfl)
      have z1 := (cell_of_blk Z3.out 1).trans (show _ = some (.string ⟨#[]⟩) from rfl)
      have z2 := (cell_of_blk Z3.out 2).trans (show _ = some (.string ⟨#[]⟩) from rfl)
      have f0 := frozen_of_blk Z3.out 0
      have f1 := frozen_of_blk Z3.out 1
      have f2 := frozen_of_blk Z3.out 2
      go_wp2_with fail
      refine bodyPost_ret (v := .tuple #[.agg #[.int .i64 0, .string ⟨#[]⟩, .string ⟨#[]⟩], .bool false, .int .i64 0]) (by simp [results, Try.results21, go_sem, z0, z1, z2]) rfl ?_
      refine move_end (x := Bo.nil) H.out HP.out HWV.out (grown_newset (grown_newset (grown_newset G3.out (Nat.le_succ _)) (Nat.le_succ _)) (Nat.le_succ _)) ?_ Hlob.out Hll.out Hpp.out Hq.out Hmv.out.1 Hmv.out.2.1 Hmv.out.2.2
      have hbz : b ≠ W.heap.size + 1 := by have := Hbl.out; omega
      exact (Below.heap_setCell _ ⟨W.heap.size + 1, 2, none⟩ _ b hbz).trans ((Below.heap_setCell _ ⟨W.heap.size + 1, 1, none⟩ _ b hbz).trans ((Below.heap_setCell _ ⟨W.heap.size + 1, 0, none⟩ _ b hbz).trans F3.out))
    · by_cases hqn : (n : Int) ≤ q
      · have hmv := mv_out (l := l) (q := q) (.inr (by rw [← Hn.out]; exact hqn))
        have Hmv := Lib.hid hmv
        clear hmv hOV
        go_quiet (fail)
        rename_i nq
        have G2 : Hid (W.grownBy (V.drewN nq) (some b)) := Lib.hid (grown_more G.out (below_drewN (Below.refl _ _) nq))
        have F2 : Hid ((V.drewN nq).heap[b]? = some (.cells #[.slice va n vc, .int .i64 q] 85 (0, 0))) := Lib.hid F1.out
        have Z2 : Hid ((V.drewN nq).heap[W.heap.size + 1]? = some (.cells #[.int .i64 0, .string ⟨#[]⟩, .string ⟨#[]⟩] 40 (0, 0))) := Lib.hid Z.out
        generalize V.drewN nq = U at *
        clear v0 v1 fv1 F1 Z G
        have v1 := (cell_of_blk F2.out 1).trans (show _ = some (.int .i64 q) from rfl)
        have fv1 := frozen_of_blk F2.out 1
        have hbz : W.heap.size + 1 ≠ b := by have := Hbl.out; omega
        go_upto_region 19 with fail
        have G3 : Hid (W.grownBy (U.setCell ⟨b, 1, none⟩ (.int .i64 (-1))) (some b)) := Lib.hid (grown_atset G2.out)
        have F3 : Hid ((U.setCell ⟨b, 1, none⟩ (.int .i64 (-1))).heap[b]? = some (.cells #[.slice va n vc, .int .i64 (-1)] 85 (0, 0))) := Lib.hid ((blk_set F2.out).trans rfl)
        have Z3 : Hid ((U.setCell ⟨b, 1, none⟩ (.int .i64 (-1))).heap[W.heap.size + 1]? = some (.cells #[.int .i64 0, .string ⟨#[]⟩, .string ⟨#[]⟩] 40 (0, 0))) := Lib.hid ((Below.heap_setCell _ ⟨b, 1, none⟩ _ (W.heap.size + 1) hbz).trans Z2.out)
        generalize U.setCell ⟨b, 1, none⟩ (.int .i64 (-1)) = U2 at *
        clear v1 fv1 G2 F2 Z2 hbz
        have z0 := (cell_of_blk Z3.out 0).trans (show _ = some (.int .i64 0) from rfl)
        have z1 := (cell_of_blk Z3.out 1).trans (show _ = some (.string ⟨#[]⟩) from rfl)
        have z2 := (cell_of_blk Z3.out 2).trans (show _ = some (.string ⟨#[]⟩) from rfl)
        have f0 := frozen_of_blk Z3.out 0
        have f1 := frozen_of_blk Z3.out 1
        have f2 := frozen_of_blk Z3.out 2
        go_wp2_with fail
        refine bodyPost_ret (v := .tuple #[.agg #[.int .i64 0, .string ⟨#[]⟩, .string ⟨#[]⟩], .bool false, .int .i64 0]) (by simp [results, Try.results21, go_sem, z0, z1, z2]) rfl ?_
        refine move_end (x := Bo.nil) H.out HP.out HWV.out (grown_newset (grown_newset (grown_newset G3.out (Nat.le_succ _)) (Nat.le_succ _)) (Nat.le_succ _)) ?_ Hlob.out Hll.out Hpp.out Hq.out Hmv.out.1 Hmv.out.2.1 Hmv.out.2.2
        have hbz : b ≠ W.heap.size + 1 := by have := Hbl.out; omega
        exact (Below.heap_setCell _ ⟨W.heap.size + 1, 2, none⟩ _ b hbz).trans ((Below.heap_setCell _ ⟨W.heap.size + 1, 1, none⟩ _ b hbz).trans ((Below.heap_setCell _ ⟨W.heap.size + 1, 0, none⟩ _ b hbz).trans F3.out))
      · obtain ⟨i, rfl⟩ : ∃ i : Nat, q = (i : Int) := ⟨q.toNat, by omega⟩
        have hin : i < n := by omega
        obtain ⟨x, hx⟩ : ∃ x, l[i]? = some x := ⟨_, List.getElem?_eq_getElem (by rw [← Hn.out]; exact hin)⟩
        have hmv := mv_in hx
        have Hmv := Lib.hid hmv
        have hos := hOV.isOs
        obtain ⟨-, hc, hm, hxx⟩ := hos.at
        obtain ⟨bo, off, rfl, hcell⟩ := hxx (by omega)
        have hro := fun (X : World) (hX : Below V.heap.size V X) => IsOs.row (w := X) (fun i x hi j y hj => (hX.cell (block_lt_of_cell (hcell i x hi j y hj))).trans (hcell i x hi j y hj)) hx
        have Hro := Lib.hid hro
        have hin2 : (i : Int) < (n : Int) := by omega
        clear hmv hOV hos hxx hcell hx hro
        go_quiet (fail)
        rename_i nq
        have G2 : Hid (W.grownBy (V.drewN nq) (some b)) := Lib.hid (grown_more G.out (below_drewN (Below.refl _ _) nq))
        have F2 : Hid ((V.drewN nq).heap[b]? = some (.cells #[.slice (some ⟨bo, off, none⟩) n vc, .int .i64 i] 85 (0, 0))) := Lib.hid F1.out
        have Z2 : Hid ((V.drewN nq).heap[W.heap.size + 1]? = some (.cells #[.int .i64 0, .string ⟨#[]⟩, .string ⟨#[]⟩] 40 (0, 0))) := Lib.hid Z.out
        obtain ⟨r0, r1, r2⟩ := Hro.out (V.drewN nq) (below_drewN (Below.refl _ _) nq)
        generalize V.drewN nq = U at *
        clear v0 v1 fv1 Hro F1 Z G
        have v0 := (cell_of_blk F2.out 0).trans (show _ = some (.slice (some ⟨bo, off, none⟩) n vc) from rfl)
        have v1 := (cell_of_blk F2.out 1).trans (show _ = some (.int .i64 i) from rfl)
        have z0 := (cell_of_blk Z2.out 0).trans (show _ = some (.int .i64 0) from rfl)
        have z1 := (cell_of_blk Z2.out 1).trans (show _ = some (.string ⟨#[]⟩) from rfl)
        have z2 := (cell_of_blk Z2.out 2).trans (show _ = some (.string ⟨#[]⟩) from rfl)
        have f0 := frozen_of_blk Z2.out 0
        have f1 := frozen_of_blk Z2.out 1
        have f2 := frozen_of_blk Z2.out 2
        obtain ⟨xk, xu, xv⟩ := x
        dsimp only at r0 r1 r2
        go_wp2_with fail
        go_still_tail 10, (by kernel_rfl)
        change wpList _ _ _ _ _ U.drew
        go_wp2_with fail
        refine bodyPost_ret (v := .tuple #[.agg #[.int .i64 xk, .string xu, .string xv], .bool true, .int .i64 0]) (by simp [results, Try.results21, go_sem, z0, z1, z2]) rfl ?_
        have GG := grown_newset (i := 2) (x := .string xv) (grown_newset (i := 1) (x := .string xu) (grown_newset (i := 0) (x := .int .i64 xk) G2.out (Nat.le_succ _)) (Nat.le_succ _)) (Nat.le_succ _)
        refine move_end (x := ⟨xk, xu, xv⟩) H.out HP.out HWV.out (by first | exact GG | exact grown_drewB GG) ?_ Hlob.out Hll.out Hpp.out Hq.out Hmv.out.1 Hmv.out.2.1 Hmv.out.2.2
        have hbz : b ≠ W.heap.size + 1 := by have := Hbl.out; omega
        exact (Below.heap_setCell _ ⟨W.heap.size + 1, 2, none⟩ _ b hbz).trans ((Below.heap_setCell _ ⟨W.heap.size + 1, 1, none⟩ _ b hbz).trans ((Below.heap_setCell _ ⟨W.heap.size + 1, 0, none⟩ _ b hbz).trans F2.out))
end Go.Proofs.Ytbnodgoccmhjkaa.Tithe
