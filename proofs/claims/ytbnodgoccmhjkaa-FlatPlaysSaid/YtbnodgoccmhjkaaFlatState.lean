/- A model with its snapshots and iterators: what it is; at, Snapshot: walked. -/
import Derived.Test.YtbnodgoccmhjkaaFlatScan
import Derived.Test.YtbnodgoccmhjkaaFinMap
import Derived.StillTailTactics
namespace Go.Proofs.Ytbnodgoccmhjkaa.Tithe
open Go.RowKit Go.Sort Go.Shelf
set_option linter.unusedVariables false
set_option linter.unusedSimpArgs false
set_option maxRecDepth 100000
noncomputable def snT : MapTy Int := mapII 60 Try.underlying60
noncomputable def itT : MapTy Nat := mapIP 76 83 Try.underlying76 (fun W => by kernel_rfl)
/-- ops in a row of a call's own -/
def OwnO (W : World) (v : Value) (l : List Bo) : Prop := W.ownsRow 0 40 3 v l.length (flat Bo.cells l)
theorem OwnO.isOs {W : World} {v : Value} {l : List Bo} (h : OwnO W v l) : IsOs W v l := isSl_own bo_len h
def WalkAt (W : World) (b : Nat) (l : List Bo) (p : Int) : Prop := ∃ v, W.heap[b]? = some (.cells #[v, .int .i64 p] 85 (0, 0)) ∧ OwnO W v l
structure MS (W : World) (lo base mb : Nat) (most : Int) (rows : List Wr) (sm im hd : Nat) (S : Int → Option Int) (zs : Nat) (P : Int → Option Nat) (zi : Nat) (L : Nat → List Bo) (A : Nat → Int) : Prop where
  mo : IsMo W base mb most rows sm im hd
  sn : OwnsF snT W sm S zs
  itr : OwnsF itT W im P zi
  ne : sm ≠ im
  los : lo ≤ sm
  loi : lo ≤ im
  lom : lo ≤ mb
  wk : ∀ h b, P h = some b → WalkAt W b (L b) (A b) ∧ lo ≤ b ∧ h ≤ hd
  sh : ∀ h n, S h = some n → h ≤ hd
  inj : ∀ h h' b, P h = some b → P h' = some b → h = h'
/-- all that is a model's is as it was -/
def KeptFor (sm im : Nat) (w w' : World) : Prop := w.heap.size ≤ w'.heap.size ∧ ∀ (b : Nat) (o : Obj), w.heap[b]? = some o → ((∃ cs fr, o = .cells cs 78 fr) ∨ (∃ cs fr, o = .cells cs 37 fr) ∨ (∃ cs fr, o = .cells cs 85 fr) ∨ (∃ cs fr, o = .cells cs 40 fr) ∨ b = sm ∨ b = im) → w'.heap[b]? = some o
theorem KeptFor.of_below {sm im : Nat} {w w' : World} (h : Below w.heap.size w w') : KeptFor sm im w w' := ⟨h.size, fun b o hb _ => blk_bels h hb⟩
theorem own_for {W W' : World} {base : Nat} {e : TypeId} {size n : Nat} {v : Value} {xs : List Value} (h : W.ownsRow base e size v n xs) (hk : ∀ (b : Nat) (cs : Array Value) (fr : Nat × Nat), W.heap[b]? = some (Obj.cells cs e fr) → W'.heap[b]? = some (Obj.cells cs e fr)) : W'.ownsRow base e size v n xs := by
  refine ⟨h.1, ?_⟩
  rcases h.2 with h0 | ⟨g, cap, cur, hv, hb, hh, r⟩
  · exact .inl h0
  · exact .inr ⟨g, cap, cur, hv, hb, hk g _ _ hh, r⟩
theorem WalkAt.for {sm im : Nat} {W W' : World} {b : Nat} {l : List Bo} {p : Int} (h : WalkAt W b l p) (hk : KeptFor sm im W W') : WalkAt W' b l p := by
  obtain ⟨v, h1, h2⟩ := h
  exact ⟨v, hk.2 b _ h1 (.inr (.inr (.inl ⟨_, _, rfl⟩))), own_for h2 (fun b cs fr hb => hk.2 b _ hb (.inr (.inr (.inr (.inl ⟨_, _, rfl⟩)))))⟩
theorem IsMo.for {sm im : Nat} {W W' : World} {base mb : Nat} {most : Int} {rows : List Wr} {s i : Nat} {hd : Int} (h : IsMo W base mb most rows s i hd) (hk : KeptFor sm im W W') : IsMo W' base mb most rows s i hd := by
  obtain ⟨a, c, h1, h2⟩ := h.ex
  exact ⟨⟨a, c, hk.2 mb _ h1 (.inl ⟨_, _, rfl⟩), own_for h2.out (fun b cs fr hb => hk.2 b _ hb (.inr (.inl ⟨_, _, rfl⟩))), fun r hr => own_for (h2.row r hr) (fun b cs fr hb => hk.2 b _ hb (.inr (.inr (.inr (.inl ⟨_, _, rfl⟩)))))⟩, h.lt, Nat.le_trans h.le hk.1⟩
section
variable {W W' : World} {lo base mb : Nat} {most : Int} {rows : List Wr} {sm im hd : Nat} {S : Int → Option Int} {zs : Nat} {P : Int → Option Nat} {zi : Nat} {L : Nat → List Bo} {A : Nat → Int}
theorem MS.for (h : MS W lo base mb most rows sm im hd S zs P zi L A) (hk : KeptFor sm im W W') : MS W' lo base mb most rows sm im hd S zs P zi L A := by
  obtain ⟨es, ck, hs⟩ := h.sn.map
  obtain ⟨es', ck', hi⟩ := h.itr.map
  exact ⟨h.mo.for hk, h.sn.of_blk ((hk.2 sm _ hs (.inr (.inr (.inr (.inr (.inl rfl)))))).trans hs.symm), h.itr.of_blk ((hk.2 im _ hi (.inr (.inr (.inr (.inr (.inr rfl)))))).trans hi.symm), h.ne, h.los, h.loi, h.lom,
    fun q b hq => ⟨(h.wk q b hq).1.for hk, (h.wk q b hq).2⟩, h.sh, h.inj⟩
theorem MS.bel (h : MS W lo base mb most rows sm im hd S zs P zi L A) (hb : Below W.heap.size W W') : MS W' lo base mb most rows sm im hd S zs P zi L A := h.for (KeptFor.of_below hb)
end
/-- all but models, rows of writes, iterators, and the two maps is as it was -/
def KeepN (sm im : Nat) (w w' : World) : Prop := ∀ (b : Nat) (o : Obj), w.heap[b]? = some o → (∀ cs fr, o ≠ .cells cs 78 fr) → (∀ cs fr, o ≠ .cells cs 37 fr) → (∀ cs fr, o ≠ .cells cs 85 fr) → ((∃ es ck, o = .map es ck) → b ≠ sm ∧ b ≠ im) → w'.heap[b]? = some o
theorem KeepN.of_below {sm im : Nat} {w w' : World} (hb : Below w.heap.size w w') : KeepN sm im w w' := fun b o h _ _ _ _ => blk_bels hb h
theorem KeepN.of_keepM {sm im : Nat} {w w' : World} (h : KeepM w w') : KeepN sm im w w' := fun b o hb h1 h2 _ _ => h b o hb h1 h2
theorem KeepN.trans {sm im : Nat} {a b c : World} (h : KeepN sm im a b) (h2 : KeepN sm im b c) : KeepN sm im a c := fun q o hq h3 h4 h5 h6 => h2 q o (h q o hq h3 h4 h5 h6) h3 h4 h5 h6
/-- cells of one type are as they were -/
def KeptTy (T : TypeId) (W W' : World) : Prop := ∀ (b : Nat) (cs : Array Value) (fr : Nat × Nat), W.heap[b]? = some (Obj.cells cs T fr) → W'.heap[b]? = some (Obj.cells cs T fr)
theorem KeptTy.map {T : TypeId} {W W' : World} {b : Nat} (hg : W.grownBy W' (some b)) (hm : ∃ es ck, W.heap[b]? = some (.map es ck)) : KeptTy T W W' := fun q cs fr hq => by
  refine (hg.block q (blk_lt hq) (fun e => ?_)).trans hq
  injection e with e
  subst e
  obtain ⟨es, ck, hm⟩ := hm
  rw [hq] at hm
  cases hm
theorem KeptTy.set {T T2 : TypeId} {W : World} {mb i : Nat} {x : Value} {cs : Array Value} (h : W.heap[mb]? = some (.cells cs T2 (0, 0))) (hne : T ≠ T2) : KeptTy T W (W.setCell ⟨mb, i, none⟩ x) := fun b cs' fr hb => by
  refine (Below.heap_setCell W ⟨mb, i, none⟩ x b (fun e => ?_)).trans hb
  have e2 : b = mb := e
  subst e2
  rw [h] at hb
  injection hb with hb
  injection hb with _ hb _
  exact hne hb.symm
theorem IsMo.ty {W W' : World} {base mb : Nat} {most : Int} {rows : List Wr} {s i : Nat} {hd : Int} (h : IsMo W base mb most rows s i hd) (h1 : KeptTy 78 W W') (h2 : KeptTy 37 W W') (h3 : KeptTy 40 W W') (hs : W.heap.size ≤ W'.heap.size) : IsMo W' base mb most rows s i hd := by
  obtain ⟨a, c, hB, hO⟩ := h.ex
  exact ⟨⟨a, c, h1 _ _ _ hB, own_for hO.out h2, fun r hr => own_for (hO.row r hr) h3⟩, h.lt, Nat.le_trans h.le hs⟩
theorem WalkAt.ty {W W' : World} {b : Nat} {l : List Bo} {p : Int} (h : WalkAt W b l p) (h1 : KeptTy 85 W W') (h2 : KeptTy 40 W W') : WalkAt W' b l p := by
  obtain ⟨v, hB, hO⟩ := h
  exact ⟨v, h1 _ _ _ hB, own_for hO h2⟩
theorem OwnsF.other {α : Type} {M : MapTy α} {W W' : World} {b z : Nat} {F : Int → Option α} (h : OwnsF M W b F z) {row : Option Nat} (hg : W.grownBy W' row) (hne : row ≠ some b) : OwnsF M W' b F z := h.of_blk (hg.block b h.lt (fun e => hne e.symm))
theorem KeepN.map {sm im b : Nat} {W W' : World} (hg : W.grownBy W' (some b)) (hm : ∃ es ck, W.heap[b]? = some (.map es ck)) (hb : b = sm ∨ b = im) : KeepN sm im W W' := fun q o hq _ _ _ h4 => by
  refine (hg.block q (blk_lt hq) (fun e => ?_)).trans hq
  injection e with e
  subst e
  obtain ⟨es, ck, hm⟩ := hm
  rw [hq] at hm
  injection hm with hm
  have := h4 ⟨es, ck, hm⟩
  rcases hb with e | e
  · exact this.1 e
  · exact this.2 e
theorem wpList_mapput {P : Program} {ops : Array Oper} {rest : List Oper} {op : Oper} {a : Act} {w : World} {Q : Exit → Act → World → Prop} (hgd : op.guard = none) (m x v : Operand) (t : TypeId) (hop : op.op = Op.mapUpdate t m x v) {vm vx vv : Value} (e1 : a.eval m = vm) (e2 : a.eval x = vx) (e3 : a.eval v = vv) {w' : World}
    (hrun : (Instr.mapUpdate t vm vx vv).run P w = .ok () w') (h : wpList P ops Q rest (a.put op.dst undef) w') : wpList P ops Q (op :: rest) a w := by
  refine wpList_plain hgd fun K hK => ?_
  unfold Oper.wp
  simp [execOp, hop, e1, e2, e3, hrun, Result.andThen]
  exact hK _ _ h
attribute [local go_sem] Oper.semAt_some
theorem at_snap (W : World) (mb : Nat) (most last : Int) (wv : Value) (sm im : Nat) (hd : Int) (hh : Int) (S : Int → Option Int) (zs : Nat) (hB : W.heap[mb]? = some (.cells (moC most last wv sm im hd) 78 (0, 0))) (hS : OwnsF snT W sm S zs) (hw : (Lit.int .i64 hh).wf = true) (h0 : hh ≠ 0) :
    Calls Try.prog 30 #[.pointer (some ⟨mb, 0, none⟩), .int .i64 hh] W fun e W' => (∃ n er : Int, e = .returned (.tuple #[.int .i64 n, .int .i64 er]) ∧ (match S hh with | some m => n = m ∧ er = 0 | none => er = 203)) ∧ W = W' := by
  have m3 := (cell_of_blk hB 3).trans (show _ = some (.map (some sm)) from rfl)
  have hlk := hS.look_ok hh hw
  have h1 : (hh == 0) = false := beq_eq_false_iff_ne.2 h0
  clear hB hS h0
  cases q : S hh with
  | none =>
    rw [q] at hlk
    have hl2 : (Instr.lookup 60 (.map (some sm)) (.int .i64 hh) true).run Try.prog W = .ok (.tuple #[.int .i64 0, .bool false]) W := hlk
    clear hlk q
    go_enter Try.func30, Try.ntmps30
    go_wp2_with fail
    go_ret2
    exact ⟨⟨_, _, rfl, rfl⟩, rfl⟩
  | some m =>
    rw [q] at hlk
    have hl2 : (Instr.lookup 60 (.map (some sm)) (.int .i64 hh) true).run Try.prog W = .ok (.tuple #[.int .i64 m, .bool true]) W := hlk
    clear hlk q
    go_enter Try.func30, Try.ntmps30
    go_wp2_with fail
    go_ret2
    exact ⟨⟨_, _, rfl, rfl, rfl⟩, rfl⟩
end Go.Proofs.Ytbnodgoccmhjkaa.Tithe
