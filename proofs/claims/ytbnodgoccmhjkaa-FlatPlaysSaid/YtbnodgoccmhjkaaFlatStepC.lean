/- What every step of FlatPlays has in common; a new key of a map; Release (printed by mkstepc.py). -/
import Derived.Test.YtbnodgoccmhjkaaFlatSMove
import Derived.WideKeyEntry
namespace Go.Proofs.Ytbnodgoccmhjkaa.Tithe
open Go.RowKit Go.Maps Go.WideMaps
set_option linter.unusedVariables false
set_option linter.unusedSimpArgs false
set_option maxRecDepth 100000
section
variable {α : Type} {M : MapTy α}
theorem OwnsF.entry {W : World} {b z : Nat} {F : Int → Option α} (h : OwnsF M W b F z) (x : Int) (hx : (Lit.int .i64 x).wf = true) (hF : F x = none) (hz : z < maxLen) :
    ∃ (st : Nat) (W1 : World), (Instr.mapEntry M.T (.map (some b)) (.int .i64 x)).run Try.prog W = .ok (.tuple #[M.z0, goInt st]) W1 ∧ W.grownBy W1 (some b) ∧ (∃ es ck, W1.heap[b]? = some (.map es ck)) ∧
      ∀ (W2 : World) (a : α), M.ok a → W2.heap[b]? = W1.heap[b]? → ∃ W3, (Instr.entryStore M.T (.map (some b)) (goInt st) (M.el a)).run Try.prog W2 = .ok () W3 ∧ OwnsF M W3 b (updF F x (some a)) (z + 1) ∧ W2.grownBy W3 (some b) := by
  have hkeep := h
  obtain ⟨D, ⟨es, clock, hb, Fi, hs, hD⟩, hm⟩ := h
  have hkey := keyOf_n hx
  have hhas : has D (klN x) = false := by rw [has_of hm hx, hF]; rfl
  have hnew : ∀ e ∈ es.toList, e.key ≠ .int .i64 x := by
    rcases Maps.fit_look false intLaw M.ht (M.hz W) hb Fi hkey with ⟨-, hno, -⟩ | ⟨e0, y, -, -, -, -, hat, -⟩
    · exact hno
    · rw [← hD] at hat
      have := has_true_of_atKey (D := D) (k := klN x) hat
      rw [hhas] at this
      cases this
  have hfind : ∀ w : World, (Instr.findKey 3 (.int .i64 x) es.toList).run Try.prog w = .ok none w := fun w => by
    rcases intLaw.find w hkey es.toList Fi.keys with ⟨h1, -⟩ | ⟨j, e, -, h2, h3⟩
    · exact h1
    · exact absurd h3 (hnew e (List.mem_of_getElem? h2))
  obtain ⟨s1, s2, -⟩ := Fi.stamped
  have hrun1 : (Instr.mapEntry M.T (.map (some b)) (.int .i64 x)).run Try.prog W = .ok (.tuple #[M.z0, goInt clock]) (Go.ChangeMaps.setBlock W b (.map (es.push ⟨.int .i64 x, M.z0, clock⟩) (clock + 1))) := by
    simp [Instr.mapEntry, run_underlying M.ht, MapKept.run_getObj_map hb, intLaw.check W false hkey, hfind, M.hz, MapKept.run_setObj_map _ hb, Result.andThen, Go.ChangeMaps.setBlock]
  have hblk := Go.ChangeMaps.heap_setBlock_same hb (.map (es.push ⟨.int .i64 x, M.z0, clock⟩) (clock + 1))
  refine ⟨clock, _, hrun1, ⟨rfl, rfl, rfl, by simp [Go.ChangeMaps.setBlock], fun i _ hi => Go.ChangeMaps.heap_setBlock_other hb _ (fun e => hi (by rw [e]))⟩, ⟨_, _, hblk⟩, fun W2 a ha hw2 => ?_⟩
  rw [hblk] at hw2
  have hidx : (es.push ⟨.int .i64 x, M.z0, clock⟩).findIdx? (fun e => ((e.born : Nat) : Int) == ((clock : Nat) : Int)) = some es.size := by
    rw [WideElems.findIdx_arr]
    refine WideElems.findIdx_born (l := (es.push ⟨.int .i64 x, M.z0, clock⟩).toList) (j := es.size) (e0 := ⟨.int .i64 x, M.z0, clock⟩) ?_ (by simp)
    rw [Array.toList_push, List.map_append, List.nodup_append]
    refine ⟨s2, by simp, fun q hq c hc e1 => ?_⟩
    obtain ⟨y, hy, rfl⟩ := List.mem_map.1 hq
    have hlt := s1 y hy
    simp only [List.map_cons, List.map_nil, List.mem_singleton] at hc
    omega
  have hmod : (es.push ⟨.int .i64 x, M.z0, clock⟩).modify es.size (fun e => { e with val := M.el a }) = es.push ⟨.int .i64 x, M.el a, clock⟩ := by
    apply Array.ext'
    rw [Array.toList_modify, Array.toList_push, Array.toList_push, ← Array.length_toList, WideElems.modify_last]
  have hrun2 : (Instr.entryStore M.T (.map (some b)) (goInt clock) (M.el a)).run Try.prog W2 = .ok () (Go.ChangeMaps.setBlock W2 b (.map (es.push ⟨.int .i64 x, M.el a, clock⟩) (clock + 1))) := by
    simp [Instr.entryStore, MapKept.run_getObj_map hw2, asInt, asIntOf, goInt, hidx, hmod, MapKept.run_setObj_map _ hw2, Result.andThen, Go.ChangeMaps.setBlock]
  refine ⟨_, hrun2, ?_, ⟨rfl, rfl, rfl, by simp [Go.ChangeMaps.setBlock], fun i _ hi => Go.ChangeMaps.heap_setBlock_other hw2 _ (fun e => hi (by rw [e]))⟩⟩
  obtain ⟨W', hput, hown, -⟩ := hkeep.put x a hx ha hz
  have hput2 : (Instr.mapUpdate M.T (.map (some b)) (.int .i64 x) (M.el a)).run Try.prog W = .ok () (Go.ChangeMaps.setBlock W b (.map (es.push ⟨.int .i64 x, M.el a, clock⟩) (clock + 1))) := by
    simp [Instr.mapUpdate, run_underlying M.ht, MapKept.run_getObj_map hb, intLaw.check W false hkey, hfind, MapKept.run_setObj_map _ hb, Result.andThen, Go.ChangeMaps.setBlock]
  rw [hput] at hput2
  injection hput2 with _ e2
  rw [e2, hF] at hown
  exact hown.of_blk ((Go.ChangeMaps.heap_setBlock_same hw2 _).trans (Go.ChangeMaps.heap_setBlock_same hb _).symm)
end
end Go.Proofs.Ytbnodgoccmhjkaa.Tithe
namespace Go.Proofs.Ytbnodgoccmhjkaa.Tithe
open Go.RowKit Go.Sort Go.Shelf
set_option linter.unusedVariables false
set_option linter.unusedSimpArgs false
set_option maxRecDepth 100000
theorem run_delete_op {P : Program} {a : Act} {w w' : World} {op : Oper} (m x : Operand) (t k : TypeId) {vm vx v : Value} (ho : op.op = .call { callee := .builtin .delete, args := #[m, x], argTypes := #[t, k] }) (e1 : a.eval m = vm) (e2 : a.eval x = vx)
    (h : ∀ ty, (Builtin.delete_ #[t, k] ty #[vm, vx]).run P w = .ok v w') : (execOp a.eval op).run P w = .ok (.value v) w' := by
  unfold execOp
  simp [ho, resolve, invoke, builtin, e1, e2, h, Result.andThen]
section
variable {α : Type} {M : MapTy α}
theorem OwnsF.dropAll {W : World} {b z : Nat} {F : Int → Option α} (h : OwnsF M W b F z) (x : Int) (hx : (Lit.int .i64 x).wf = true) :
    ∃ W', (∀ ty, (Builtin.delete_ #[M.T, 3] ty #[.map (some b), .int .i64 x]).run Try.prog W = .ok (.tuple #[]) W') ∧ OwnsF M W' b (updF F x none) (if (F x).isSome then z - 1 else z) ∧ W.grownBy W' (some b) := by
  obtain ⟨W', h1, h2, h3⟩ := h.drop x hx 0
  refine ⟨W', fun ty => ?_, h2, h3⟩
  rw [← h1]
  rfl
end
theorem updF_none {α : Type} (F : Int → Option α) (x : Int) (h : F x = none) : updF F x none = F := by
  funext y
  unfold updF
  split
  · rename_i e; rw [e, h]
  · rfl
def RelOut (W : World) (lo base mb : Nat) (most : Int) (rows : List Wr) (sm im hd : Nat) (S : Int → Option Int) (zs : Nat) (P : Int → Option Nat) (zi : Nat) (L : Nat → List Bo) (A : Nat → Int) (hh : Int) (e : Ending) (W' : World) : Prop :=
  e = .returned (.int .i64 (if (S hh).isSome || (P hh).isSome then 0 else 203)) ∧ MS W' lo base mb most rows sm im hd (updF S hh none) (if (S hh).isSome then zs - 1 else zs) (updF P hh none) (if (P hh).isSome then zi - 1 else zi) L A ∧ KeepN sm im W W' ∧ Below lo W W'
attribute [local go_sem] Oper.semAt_some
set_option maxHeartbeats 3200000 in
theorem release_any {W : World} {lo base mb : Nat} {most : Int} {rows : List Wr} {sm im hd : Nat} {S : Int → Option Int} {zs : Nat} {P : Int → Option Nat} {zi : Nat} {L : Nat → List Bo} {A : Nat → Int} (h : MS W lo base mb most rows sm im hd S zs P zi L A) (hh : Int) (hw : (Lit.int .i64 hh).wf = true) (hlo : lo ≤ W.heap.size) :
    Calls Try.prog 43 #[.pointer (some ⟨mb, 0, none⟩), .int .i64 hh] W (RelOut W lo base mb most rows sm im hd S zs P zi L A hh) := by
  have H := Lib.hid h
  obtain ⟨a, c, hB, -⟩ := h.mo.ex
  have m3 := (cell_of_blk hB 3).trans (show _ = some (.map (some sm)) from rfl)
  have m4 := (cell_of_blk hB 4).trans (show _ = some (.map (some im)) from rfl)
  have hlk := h.sn.look_ok hh hw
  have hlp := h.itr.look hh hw
  by_cases hno : S hh = none ∧ P hh = none
  · obtain ⟨hs, hp⟩ := hno
    rw [hs] at hlk
    rw [hp] at hlp
    have hl2 : (Instr.lookup 60 (.map (some sm)) (.int .i64 hh) true).run Try.prog W = .ok (.tuple #[.int .i64 0, .bool false]) W := hlk
    have hl3 : (Instr.lookup 76 (.map (some im)) (.int .i64 hh) false).run Try.prog W = .ok (.pointer none) W := hlp
    have Hs := Lib.hid hs
    have Hp := Lib.hid hp
    clear h hB hlk hlp hs hp hw hlo
    go_enter Try.func43, Try.ntmps43
    go_wp2_with fail
    go_ret
    unfold RelOut
    rw [Hs.out, Hp.out, updF_none S hh Hs.out, updF_none P hh Hp.out]
    exact ⟨rfl, H.out, KeepN.of_below (Below.refl _ _), Below.refl _ _⟩
  · obtain ⟨W1, hd1, hs1, hg1⟩ := h.sn.dropAll hh hw
    have hmap1 := h.sn.map
    have hi1 : OwnsF itT W1 im P zi := h.itr.other hg1 (fun e => h.ne (by injection e))
    obtain ⟨W2, hd2, hi2, hg2⟩ := hi1.dropAll hh hw
    have hmap2 := hi1.map
    have hb1 : Below lo W W1 := grown_below hg1 h.los hlo
    have hb2 : Below lo W W2 := hb1.trans (grown_below hg2 h.loi (Nat.le_trans hlo hg1.size))
    have hmo1 := h.mo.ty (KeptTy.map hg1 hmap1) (KeptTy.map hg1 hmap1) (KeptTy.map hg1 hmap1) hg1.size
    have hmo2 := hmo1.ty (KeptTy.map hg2 hmap2) (KeptTy.map hg2 hmap2) (KeptTy.map hg2 hmap2) hg2.size
    have hke := (KeepN.map (im := im) hg1 hmap1 (.inl rfl)).trans (KeepN.map (sm := sm) hg2 hmap2 (.inr rfl))
    have hs2 := hs1.other hg2 (fun e => h.ne (by injection e with e; exact e.symm))
    have hwk : ∀ q b, updF P hh none q = some b → WalkAt W2 b (L b) (A b) ∧ lo ≤ b ∧ q ≤ hd := fun q b hq => by
      unfold updF at hq
      split at hq
      · cases hq
      · obtain ⟨g1, g2, g3⟩ := h.wk q b hq
        exact ⟨(g1.ty (KeptTy.map hg1 hmap1) (KeptTy.map hg1 hmap1)).ty (KeptTy.map hg2 hmap2) (KeptTy.map hg2 hmap2), g2, g3⟩
    have hsh : ∀ q n, updF S hh none q = some n → q ≤ hd := fun q n hq => by
      unfold updF at hq
      split at hq
      · cases hq
      · exact h.sh q n hq
    have hin : ∀ q q' b, updF P hh none q = some b → updF P hh none q' = some b → q = q' := fun q q' b h1 h2 => by
      unfold updF at h1 h2
      split at h1
      · cases h1
      · split at h2
        · cases h2
        · exact h.inj q q' b h1 h2
    have HM2 : Hid (MS W2 lo base mb most rows sm im hd (updF S hh none) (if (S hh).isSome then zs - 1 else zs) (updF P hh none) (if (P hh).isSome then zi - 1 else zi) L A) := Lib.hid ⟨hmo2, hs2, hi2, h.ne, h.los, h.loi, h.lom, hwk, hsh, hin⟩
    have HKe := Lib.hid hke
    have Hb2 := Lib.hid hb2
    obtain ⟨a1, c1, hB1, -⟩ := hmo1.ex
    have n4 := (cell_of_blk hB1 4).trans (show _ = some (.map (some im)) from rfl)
    have hdr1 : ∀ ty, (Builtin.delete_ #[60, 3] ty #[.map (some sm), .int .i64 hh]).run Try.prog W = .ok (.tuple #[]) W1 := hd1
    have hdr2 : ∀ ty, (Builtin.delete_ #[76, 3] ty #[.map (some im), .int .i64 hh]).run Try.prog W1 = .ok (.tuple #[]) W2 := hd2
    have Hd1 := Lib.hid hdr1
    have Hd2 := Lib.hid hdr2
    have hv : (if (S hh).isSome || (P hh).isSome then (0 : Int) else 203) = 0 := by
      cases q1 : S hh with
      | some x => rfl
      | none =>
        cases q2 : P hh with
        | some x => rfl
        | none => exact absurd ⟨q1, q2⟩ hno
    have Hv := Lib.hid hv
    have fin : RelOut W lo base mb most rows sm im hd S zs P zi L A hh (.returned (.int .i64 0)) W2 := ⟨by rw [Hv.out], HM2.out, HKe.out, Hb2.out⟩
    have Fin := Lib.hid fin
    clear hd1 hs1 hg1 hmap1 hi1 hd2 hi2 hg2 hmap2 hb1 hb2 hmo1 hmo2 hke hs2 hwk hsh hin hB1 hdr1 hdr2 hv fin hB hw hlo h
    cases hs : S hh with
    | some x =>
      rw [hs] at hlk
      have hl2 : (Instr.lookup 60 (.map (some sm)) (.int .i64 hh) true).run Try.prog W = .ok (.tuple #[.int .i64 x, .bool true]) W := hlk
      clear hlk hlp hs hno
      go_enter Try.func43, Try.ntmps43
      go_wp2_with (first | (at_delete; refine wpList_val rfl _ _ (run_delete_op (.tmp 30) (.tmp 31) 60 3 rfl rfl rfl Hd1.out) ?_) | (at_delete; refine wpList_val rfl _ _ (run_delete_op (.tmp 35) (.tmp 36) 76 3 rfl rfl rfl Hd2.out) ?_))
      go_ret
      exact Fin.out
    | none =>
      rw [hs] at hlk
      have hl2 : (Instr.lookup 60 (.map (some sm)) (.int .i64 hh) true).run Try.prog W = .ok (.tuple #[.int .i64 0, .bool false]) W := hlk
      cases hp : P hh with
      | none => exact absurd ⟨hs, hp⟩ hno
      | some b =>
        rw [hp] at hlp
        have hl3 : (Instr.lookup 76 (.map (some im)) (.int .i64 hh) false).run Try.prog W = .ok (.pointer (some ⟨b, 0, none⟩)) W := hlp
        clear hlk hlp hs hp hno
        go_enter Try.func43, Try.ntmps43
        go_wp2_with (first | (at_delete; refine wpList_val rfl _ _ (run_delete_op (.tmp 30) (.tmp 31) 60 3 rfl rfl rfl Hd1.out) ?_) | (at_delete; refine wpList_val rfl _ _ (run_delete_op (.tmp 35) (.tmp 36) 76 3 rfl rfl rfl Hd2.out) ?_))
        go_ret
        exact Fin.out

theorem at_none (W : World) (mb : Nat) (most last : Int) (wv : Value) (sm im : Nat) (hd : Int) (hh : Int) (S : Int → Option Int) (zs : Nat) (hB : W.heap[mb]? = some (.cells (moC most last wv sm im hd) 78 (0, 0))) (hS : OwnsF snT W sm S zs) (hw : (Lit.int .i64 hh).wf = true) (h0 : hh ≠ 0) (q : S hh = none) :
    Calls Try.prog 30 #[.pointer (some ⟨mb, 0, none⟩), .int .i64 hh] W fun e W' => e = .returned (.tuple #[.int .i64 0, .int .i64 203]) ∧ W = W' := by
  have m3 := (cell_of_blk hB 3).trans (show _ = some (.map (some sm)) from rfl)
  have hlk := hS.look_ok hh hw
  have h1 : (hh == 0) = false := beq_eq_false_iff_ne.2 h0
  clear hB hS h0
  rw [q] at hlk
  have hl2 : (Instr.lookup 60 (.map (some sm)) (.int .i64 hh) true).run Try.prog W = .ok (.tuple #[.int .i64 0, .bool false]) W := hlk
  clear hlk q
  go_enter Try.func30, Try.ntmps30
  go_wp2_with fail
  go_ret2
  exact ⟨rfl, rfl⟩
/-- the document's state goes with the model's -/
structure Rel (rm rx : List Wr) (S : Int → Option Int) (P : Int → Option Nat) (L : Nat → List Bo) (A : Nat → Int) (N T : Int → Option Int) : Prop where
  eq : opsOf rx = opsOf rm
  sv : ∀ h m, S h = some m → ∃ n : Nat, m = (n : Int) ∧ n ≤ rm.length
  pn : ∀ h, (P h).isSome = (N h).isSome
  pt : ∀ h b, P h = some b → ∃ (n : Nat) (ks : List (List UInt8)), N h = some (n : Int) ∧ n ≤ rm.length ∧ KeysIs (foldF ((opsOf rm).take n).flatten) ks ∧ ks.length ≤ 100000 ∧ L b = outO (foldF ((opsOf rm).take n).flatten) ks ∧ T h = some (A b) ∧ -1 ≤ A b ∧ A b < (ks.length : Int)
structure BothD (W : World) (lo mb xb sb sm im ss is_ as_ : Nat) (most : Int) (k base base2 : Nat) (rm rx : List Wr) (hd : Nat) (S : Int → Option Int) (zs : Nat) (P : Int → Option Nat) (zi : Nat) (L : Nat → List Bo) (A : Nat → Int) (N T : Int → Option Int) (zt : Nat) : Prop where
  ms : MS W lo base mb most rm sm im hd S zs P zi L A
  xs : XS W lo base2 xb sb most rx ss is_ as_ hd S zs N zi T zt
  rel : Rel rm rx S P L A N T
  d1 : sm ≠ ss ∧ sm ≠ is_ ∧ sm ≠ as_
  d2 : im ≠ ss ∧ im ≠ is_ ∧ im ≠ as_
  rl : rm.length ≤ k
  sz : ∀ r ∈ rm, r.2.length ≤ 70 ∧ ∀ x ∈ r.2, x.u.size ≤ 200 ∧ x.v.size ≤ 500
  hk : hd ≤ k
  zk : zs ≤ k ∧ zi ≤ k ∧ zt ≤ k
  lw : lo ≤ W.heap.size
  th : ∀ h m, T h = some m → h ≤ hd
def Both (W : World) (lo mb xb sb sm im ss is_ as_ : Nat) (most : Int) (k : Nat) : Prop := ∃ base base2 rm rx hd S zs P zi L A N T zt, BothD W lo mb xb sb sm im ss is_ as_ most k base base2 rm rx hd S zs P zi L A N T zt
def StepOut (W : World) (lo mb xb sb sm im ss is_ as_ : Nat) (most : Int) (k : Nat) (e : Ending) (W' : World) : Prop := e = .returned (.bool true) ∧ Both W' lo mb xb sb sm im ss is_ as_ most (k + 1) ∧ Below lo W W'
section
variable {W W' : World} {lo mb xb sb sm im ss is_ as_ : Nat} {most : Int} {k base base2 : Nat} {rm rx : List Wr} {hd : Nat} {S : Int → Option Int} {zs : Nat} {P : Int → Option Nat} {zi : Nat} {L : Nat → List Bo} {A : Nat → Int} {N T : Int → Option Int} {zt : Nat}
theorem BothD.bel (h : BothD W lo mb xb sb sm im ss is_ as_ most k base base2 rm rx hd S zs P zi L A N T zt) (hb : Below W.heap.size W W') : BothD W' lo mb xb sb sm im ss is_ as_ most k base base2 rm rx hd S zs P zi L A N T zt :=
  ⟨h.ms.bel hb, h.xs.bel hb, h.rel, h.d1, h.d2, h.rl, h.sz, h.hk, h.zk, Nat.le_trans h.lw hb.size, h.th⟩
theorem BothD.more (h : BothD W lo mb xb sb sm im ss is_ as_ most k base base2 rm rx hd S zs P zi L A N T zt) : Both W lo mb xb sb sm im ss is_ as_ most (k + 1) :=
  ⟨_, _, _, _, _, _, _, _, _, _, _, _, _, _, h.ms, h.xs, h.rel, h.d1, h.d2, Nat.le_succ_of_le h.rl, h.sz, Nat.le_succ_of_le h.hk, ⟨Nat.le_succ_of_le h.zk.1, Nat.le_succ_of_le h.zk.2.1, Nat.le_succ_of_le h.zk.2.2⟩, h.lw, h.th⟩
theorem BothD.len (h : BothD W lo mb xb sb sm im ss is_ as_ most k base base2 rm rx hd S zs P zi L A N T zt) : rx.length = rm.length := by rw [← opsOf_len, h.rel.eq, opsOf_len]
/-- the ops of the first writes are few and small -/
theorem BothD.ops (h : BothD W lo mb xb sb sm im ss is_ as_ most k base base2 rm rx hd S zs P zi L A N T zt) (hk : k ≤ 100) (n : Nat) : ((opsOf rm).take n).flatten.length ≤ 100000 ∧ ∀ x ∈ ((opsOf rm).take n).flatten, x.u.size ≤ 200 ∧ x.v.size ≤ 500 := by
  have hrl := h.rl
  constructor
  · have h1 := flatten_le (L := (opsOf rm).take n) (B := 70) (fun l hl => by
      have h1 := List.mem_of_mem_take hl
      unfold opsOf at h1
      obtain ⟨r, hr, rfl⟩ := List.mem_map.1 h1
      exact (h.sz r hr).1)
    have h3 : ((opsOf rm).take n).length ≤ rm.length := by rw [List.length_take, opsOf_len]; omega
    omega
  · intro o ho
    obtain ⟨l, hl, hol⟩ := List.mem_flatten.1 ho
    have h1 := List.mem_of_mem_take hl
    unfold opsOf at h1
    obtain ⟨r, hr, rfl⟩ := List.mem_map.1 h1
    exact (h.sz r hr).2 o hol
theorem flatO_min' (rows : List Wr) (k : Nat) : flatO rows (min k rows.length) = ((opsOf rows).take k).flatten := by
  unfold flatO
  rcases Nat.le_total k rows.length with h | h
  · rw [Nat.min_eq_left h]
  · rw [Nat.min_eq_right h, List.take_of_length_le (by rw [opsOf_len]; exact Nat.le_refl _), List.take_of_length_le (by rw [opsOf_len]; exact h)]
/-- what a handle means, to the model and to the document -/
theorem BothD.hand (h : BothD W lo mb xb sb sm im ss is_ as_ most k base base2 rm rx hd S zs P zi L A N T zt) (hh : Int) (hw : (Lit.int .i64 hh).wf = true) :
    (∃ n : Nat, n ≤ rm.length ∧ wrN rx.length S hh = some (n : Int) ∧ ∀ X : World, Below W.heap.size W X → Calls Try.prog 30 #[.pointer (some ⟨mb, 0, none⟩), .int .i64 hh] X fun e w' => e = .returned (.tuple #[.int .i64 (n : Int), .int .i64 0]) ∧ X = w') ∨
    (wrN rx.length S hh = none ∧ ∀ X : World, Below W.heap.size W X → Calls Try.prog 30 #[.pointer (some ⟨mb, 0, none⟩), .int .i64 hh] X fun e w' => e = .returned (.tuple #[.int .i64 0, .int .i64 203]) ∧ X = w') := by
  obtain ⟨a, c, hB, hO⟩ := h.ms.mo.ex
  by_cases h0 : hh = 0
  · subst h0
    refine .inl ⟨rm.length, Nat.le_refl _, by unfold wrN; rw [if_pos rfl, h.len], fun X hX => at0_any X mb most _ a _ c _ _ _ (blk_bels hX hB)⟩
  · have hwr : wrN rx.length S hh = S hh := by unfold wrN; rw [if_neg h0]
    rw [hwr]
    cases q : S hh with
    | some m =>
      obtain ⟨n, rfl, hn⟩ := h.rel.sv hh m q
      refine .inl ⟨n, hn, rfl, fun X hX => (at_snap X mb most _ _ _ _ _ hh S _ (blk_bels hX hB) (h.ms.sn.below hX) hw h0).mono fun e w' ⟨⟨z, er, hz1, hz2⟩, hz3⟩ => ?_⟩
      rw [q] at hz2
      obtain ⟨rfl, rfl⟩ := hz2
      exact ⟨hz1, hz3⟩
    | none =>
      refine .inr ⟨rfl, fun X hX => (at_none X mb most _ _ _ _ _ hh S _ (blk_bels hX hB) (h.ms.sn.below hX) hw h0 q)⟩
end
theorem KeepD.of_state {ss is_ as_ sb i : Nat} {W U : World} {x : Value} {cs : Array Value} (h : U.heap[sb]? = some (.cells cs 62 (0, 0))) (hk : KeepD ss is_ as_ W U) : KeepD ss is_ as_ W (U.setCell ⟨sb, i, none⟩ x) := hk.trans (KeepD.state h)
theorem XS.setNext {W : World} {lo base xb sb : Nat} {most : Int} {rx : List Wr} {ss is_ as_ hd : Nat} {S : Int → Option Int} {zs : Nat} {N : Int → Option Int} {zi : Nat} {T : Int → Option Int} {zt : Nat} (h : XS W lo base xb sb most rx ss is_ as_ hd S zs N zi T zt) (hd' : Nat) (v : Int) (hv : v = (hd' : Int)) : XS (W.setCell ⟨sb, 3, none⟩ (.int .i64 v)) lo base xb sb most rx ss is_ as_ hd' S zs N zi T zt := by
  subst hv
  have kt : ∀ X : TypeId, X ≠ 62 → KeptTy X W (W.setCell ⟨sb, 3, none⟩ (.int .i64 (hd' : Int))) := fun X hX => KeptTy.set h.st hX
  obtain ⟨a, c, h1, h2⟩ := h.xo.ex
  have hm : ∀ b, (∃ es ck, W.heap[b]? = some (.map es ck)) → b ≠ sb := fun b ⟨es, ck, hb⟩ e => by
    subst e
    rw [h.st] at hb
    cases hb
  have ho : ∀ b, b ≠ sb → (W.setCell ⟨sb, 3, none⟩ (.int .i64 (hd' : Int))).heap[b]? = W.heap[b]? := fun b hb => Below.heap_setCell W ⟨sb, 3, none⟩ _ b hb
  exact ⟨⟨⟨a, c, kt _ (by decide) _ _ _ h1, own_for h2.out (kt _ (by decide)), fun r hr => own_for (h2.row r hr) (kt _ (by decide))⟩, h.xo.lt, by rw [World.size_setCell]; exact h.xo.le⟩, (blk_set h.st).trans rfl, h.sn.of_blk (ho _ (hm _ h.sn.map)), h.it.of_blk (ho _ (hm _ h.it.map)), h.at_.of_blk (ho _ (hm _ h.at_.map)), h.n1, h.n2, h.n3, h.l1, h.l2, h.l3, h.l4, h.l5⟩
theorem XS.putS {W : World} {lo base xb sb : Nat} {most : Int} {rx : List Wr} {ss is_ as_ hd : Nat} {S : Int → Option Int} {zs : Nat} {N : Int → Option Int} {zi : Nat} {T : Int → Option Int} {zt : Nat} (h : XS W lo base xb sb most rx ss is_ as_ hd S zs N zi T zt) {W' : World} {S' : Int → Option Int} {zs' : Nat} (hg : W.grownBy W' (some ss)) (hS : OwnsF snT W' ss S' zs') : XS W' lo base xb sb most rx ss is_ as_ hd S' zs' N zi T zt := by
  have hm := h.sn.map
  have kt : ∀ X : TypeId, KeptTy X W W' := fun X => KeptTy.map hg hm
  obtain ⟨a, c, h1, h2⟩ := h.xo.ex
  exact ⟨⟨⟨a, c, kt _ _ _ _ h1, own_for h2.out (kt _), fun r hr => own_for (h2.row r hr) (kt _)⟩, h.xo.lt, Nat.le_trans h.xo.le hg.size⟩, kt _ _ _ _ h.st, hS, h.it.other hg (fun e => h.n1 (by injection e)), h.at_.other hg (fun e => h.n2 (by injection e)), h.n1, h.n2, h.n3, h.l1, h.l2, h.l3, h.l4, h.l5⟩
theorem XS.putN {W : World} {lo base xb sb : Nat} {most : Int} {rx : List Wr} {ss is_ as_ hd : Nat} {S : Int → Option Int} {zs : Nat} {N : Int → Option Int} {zi : Nat} {T : Int → Option Int} {zt : Nat} (h : XS W lo base xb sb most rx ss is_ as_ hd S zs N zi T zt) {W' : World} {N' : Int → Option Int} {zi' : Nat} (hg : W.grownBy W' (some is_)) (hN : OwnsF snT W' is_ N' zi') : XS W' lo base xb sb most rx ss is_ as_ hd S zs N' zi' T zt := by
  have hm := h.it.map
  have kt : ∀ X : TypeId, KeptTy X W W' := fun X => KeptTy.map hg hm
  obtain ⟨a, c, h1, h2⟩ := h.xo.ex
  exact ⟨⟨⟨a, c, kt _ _ _ _ h1, own_for h2.out (kt _), fun r hr => own_for (h2.row r hr) (kt _)⟩, h.xo.lt, Nat.le_trans h.xo.le hg.size⟩, kt _ _ _ _ h.st, h.sn.other hg (fun e => h.n1 (by injection e with e; exact e.symm)), hN, h.at_.other hg (fun e => h.n3 (by injection e)), h.n1, h.n2, h.n3, h.l1, h.l2, h.l3, h.l4, h.l5⟩
theorem KeepN.docD {sm im ss is_ as_ : Nat} {W W' : World} (hk : KeepN sm im W W') (hs : W.heap.size ≤ W'.heap.size) (d1 : sm ≠ ss ∧ sm ≠ is_ ∧ sm ≠ as_) (d2 : im ≠ ss ∧ im ≠ is_ ∧ im ≠ as_) : KeptDoc ss is_ as_ W W' := hk.doc hs ⟨d1.1.symm, d2.1.symm⟩ ⟨d1.2.1.symm, d2.2.1.symm⟩ ⟨d1.2.2.symm, d2.2.2.symm⟩
theorem MS.keepD {W W' : World} {lo base mb : Nat} {most : Int} {rows : List Wr} {sm im hd : Nat} {S : Int → Option Int} {zs : Nat} {P : Int → Option Nat} {zi : Nat} {L : Nat → List Bo} {A : Nat → Int} {ss is_ as_ : Nat} (h : MS W lo base mb most rows sm im hd S zs P zi L A) (hk : KeepD ss is_ as_ W W') (hs : W.heap.size ≤ W'.heap.size) (d1 : sm ≠ ss ∧ sm ≠ is_ ∧ sm ≠ as_) (d2 : im ≠ ss ∧ im ≠ is_ ∧ im ≠ as_) : MS W' lo base mb most rows sm im hd S zs P zi L A :=
  h.for (hk.for hs d1 d2 h.sn.map h.itr.map)
theorem XS.len {W : World} {lo base xb sb : Nat} {most : Int} {rx : List Wr} {ss is_ as_ hd : Nat} {S : Int → Option Int} {zs : Nat} {N : Int → Option Int} {zi : Nat} {T : Int → Option Int} {zt : Nat} (h : XS W lo base xb sb most rx ss is_ as_ hd S zs N zi T zt) : ∃ a c, W.heap[xb]? = some (.cells #[.slice a rx.length c, .int .i64 most] 36 (0, 0)) ∧ IsWs W (.slice a rx.length c) rx := by
  obtain ⟨a, c, h1, h2⟩ := h.xo.ex
  exact ⟨a, c, h1, h2.isWs⟩
end Go.Proofs.Ytbnodgoccmhjkaa.Tithe
