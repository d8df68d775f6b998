/- A RANGE OVER A FUNCTION, in the lone walk: a law of my own over the library's two steps (the round out of its body's walk; the statement). The iterator's contract speaks of N rounds whose values are known ahead; 'Dat': what the iterator reads, which a round that goes on must leave; 'It': what the iterator itself may do between two rounds. -/
import Derived.RangeFuncNested
import Derived.RangeFuncCalls
import Derived.RangeFuncLeaves
import Derived.Shelf.Abstract
import Derived.Shelf.RegionOpen
import Derived.WalkKit
import Derived.OwnWalkIn
import Derived.TacticsInMore
import Derived.LoopNIn
import Derived.LoopIn
import Derived.StillTailTactics
import Derived.Lib.QuietBelow
import Derived.OrdersIn
namespace Go.Proofs.Ythjjelomlgmllaa.Tithe
open Go.RowKit Go.Shelf Go.Sort
set_option linter.unusedVariables false

def IterOk (P : Program) (gf : Nat) (lb : Array Value) (encs : Nat → Array Value) (N : Nat) (Dat : World → Prop) (It : World → World → Prop) : Prop :=
  ∀ (l : Nat) (J Jx : Nat → World → Prop) (W : World), Dat W →
    (∀ k A B, J k A → It A B → J k B) → (∀ k A B, Jx k A → It A B → Jx k B) →
    (∀ k W1, k < N → J k W1 → Dat W1 → YieldAt Fence.wide 0 P l (encs k) W1 fun e W' => (e = .returned (.bool true) ∧ J (k + 1) W' ∧ Dat W') ∨ (e = .returned (.bool false) ∧ Jx k W')) →
    J 0 W →
    CallsIn Fence.wide 0 P gf (#[.func (.yield l) #[] #[]] ++ lb) W fun e W' => (∃ v, e = .returned v) ∧ (J N W' ∨ ∃ k, k < N ∧ Jx k W')

/-- HOW THE BODY OF A ROUND MAY BE LEFT. -/
def roundEnd (B : Nat) (Dat : World → Prop) (I : Nat → World → Prop) (Ix : Code → Nat → World → Prop) (k : Nat) (W : World) : Exit → Act → World → Prop
  | .normal, _, W' => KeepsFrom B W W' ∧ Dat W' ∧ I (k + 1) W'
  | .ret, _, W' => KeepsFrom B W W' ∧ Ix .ret k W'
  | .exit id, _, W' => KeepsFrom B W W' ∧ Ix (.exit id) k W'
  | .goto t, _, W' => KeepsFrom B W W' ∧ Ix (.goto t) k W'
  | .panic _, _, _ => False
  | .outgrown, _, _ => False

theorem calls_anyDepth {P : Program} {f : FuncId} {args : Array Value} {w : World} {R : Ending → World → Prop} {n m : Nat} (h : CallsIn Fence.wide n P f args w R) : CallsIn Fence.wide m P f args w R := callsIn_wide.2 (callsIn_wide.1 h)

theorem range_law {P : Program} {g : Operand} {ps : Array Tmp} {assign body : Code} {Q : Exit → Act → World → Prop} {a : Act} {w : World}
    {gf : Nat} {lb : Array Value} (hg : a.eval g = .func (.func gf) #[] lb) (eg : ∀ args w, (callFunc gf args).run P w = .ok (.enter gf args) w)
    {encs : Nat → Array Value} {N : Nat} {Dat : World → Prop} {It : World → World → Prop} (hseq : IterOk P gf lb encs N Dat It)
    (hIt : ∀ A B, It A B → KeepsFrom w.heap.size A B) (hDat : OwnFrom w.heap.size (fun (_ : Unit) W => Dat W)) (hD0 : Dat w) (hps : ∀ k, (encs k).size = ps.size)
    (I : Nat → World → Prop) (Ix : Code → Nat → World → Prop) (hI : OwnFrom w.heap.size I) (hIx : ∀ c, OwnFrom w.heap.size (Ix c))
    (hII : ∀ k A B, w.heap.size ≤ A.heap.size → I k A → It A B → I k B) (hIxI : ∀ c k A B, w.heap.size ≤ A.heap.size → Ix c k A → It A B → Ix c k B) (h0 : I 0 w) (a₁ : Nat → Act)
    (hassign : ∀ (l k : Nat) (W : World) (K : Act → World → Prop), K (a₁ k) W →
      assign.wpIn (Fence.wide.inRound l) 0 P (Exit.then K (fun _ _ _ => False)) { tmps := (ps.zip (encs k)).foldl (fun t (p, v) => t.setIfInBounds p v) a.tmps, defers := [] } W)
    (hbody : ∀ (l k : Nat) (W : World), k < N → w.heap.size ≤ W.heap.size → I k W → Dat W → body.wpIn (Fence.wide.inRound l) 0 P (roundEnd w.heap.size Dat I Ix k W) (a₁ k) W)
    (hdone : ∀ (D : Nat) (W : World), w.heap.size ≤ D → w.heap.size ≤ W.heap.size → I N W → W.heap[D]? = some (.deferred (some [])) → Q .normal { a with defers := { target := .collected D, args := #[] } :: a.defers } W)
    (hstop : ∀ (D : Nat) (c : Code) (k : Nat) (W : World), w.heap.size ≤ D → w.heap.size ≤ W.heap.size → k < N → Ix c k W → W.heap[D]? = some (.deferred (some [])) → c.wp P Q { a with defers := { target := .collected D, args := #[] } :: a.defers } W) :
    (Code.rangeFunc g ps assign body).wp P Q a w := by
  refine (wpIn_wide (n := 0)).1 (wpIn_rangeFunc ?_)
  intro fn hfn
  show ∃ l mark w₁ d w₁' f args w₂, (Instr.enterLoop fn a.tmps ps assign body none).run P w = .ok (l, mark) w₁ ∧ _
  obtain ⟨rec, hrec⟩ : ∃ rec : LoopState → Option Code → Loop, rec = fun st pe => { state := st, pending := pe, fn, tmps := a.tmps, params := ps, assign, body, defers := w.heap.size } := ⟨_, rfl⟩
  obtain ⟨W1, hW1⟩ : ∃ W1, (w.alloc (.deferred (some []))).alloc (.loop (rec .ready none)) = W1 := ⟨_, rfl⟩
  have hL1 : W1.heap[w.heap.size + 1]? = some (.loop (rec .ready none)) := by
    rw [← hW1]; have := World.alloc_heap_new (w.alloc (.deferred (some []))) (.loop (rec .ready none)); rwa [World.size_alloc] at this
  have hK1 : W1.heap[w.heap.size]? = some (.deferred (some [])) := by
    rw [← hW1]; exact (Below.heap_alloc _ _ _ (by simp)).trans (World.alloc_heap_new w _)
  have hI1 : I 0 W1 := by rw [← hW1]; exact hI.alloc _ (hI.alloc _ h0)
  have hD1 : Dat W1 := by rw [← hW1]; exact hDat.alloc (s := ()) _ (hDat.alloc (s := ()) _ hD0)
  have hs1 : w.heap.size ≤ W1.heap.size := by rw [← hW1]; simp; omega
  refine ⟨w.heap.size + 1, [{ target := .collected w.heap.size, args := #[] }], W1, { target := .fn (.func gf) lb, args := #[.func (.yield (w.heap.size + 1)) #[] #[]] }, W1, gf,
    #[.func (.yield (w.heap.size + 1)) #[] #[]] ++ lb, W1, ?_, ?_, ?_, ?_, fun h => by simp [Fence.wide] at h, ?_⟩
  · rw [← hW1, hrec]; exact run_enterLoop_outer _ _ _ _ _
  · simp only [resolve, hg]
    simp [go_sem]
  · intro f' _; trivial
  · simp [invoke, go_sem, eg]
  · refine (calls_anyDepth (hseq (w.heap.size + 1)
      (fun k W => (I k W ∧ w.heap.size ≤ W.heap.size) ∧ W.heap[w.heap.size + 1]? = some (.loop (rec .ready none)) ∧ W.heap[w.heap.size]? = some (.deferred (some [])))
      (fun k W => ∃ c, (Ix c k W ∧ w.heap.size ≤ W.heap.size) ∧ W.heap[w.heap.size + 1]? = some (.loop (rec .done (some c))) ∧ W.heap[w.heap.size]? = some (.deferred (some [])))
      W1 hD1
      (fun k A B hs hg' => ⟨⟨hII k A B hs.1.2 hs.1.1 hg', Nat.le_trans hs.1.2 (hIt A B hg').size⟩, (hIt A B hg').same _ _ (by omega) hs.2.1 rfl, (hIt A B hg').same _ _ (by omega) hs.2.2 rfl⟩)
      (fun k A B hs hg' => by
        obtain ⟨c, hc, hl, hk⟩ := hs
        exact ⟨c, ⟨hIxI c k A B hc.2 hc.1 hg', Nat.le_trans hc.2 (hIt A B hg').size⟩, (hIt A B hg').same _ _ (by omega) hl rfl, (hIt A B hg').same _ _ (by omega) hk rfl⟩)
      ?_ ⟨⟨hI1, hs1⟩, hL1, hK1⟩)).mono ?_
    · -- one round
      rintro k W hkN ⟨⟨hi, hsz⟩, hl, hk⟩ hdat
      have hlt : w.heap.size + 1 < W.heap.size := (Array.getElem?_eq_some_iff.1 hl).1
      have hy := run_yield (P := P) (args := encs k) hl (by rw [hrec]; exact hps k)
      rw [hrec] at hy
      refine ⟨fn, _, assign, body, hy, roundIn_of_wpIn hfn (hassign _ k W _ ⟨_, run_beginRound hl (by rw [hrec]), ?_⟩)⟩
      have hl2 : (W.putObj (w.heap.size + 1) (.loop { rec .ready none with state := .busy })).heap[w.heap.size + 1]? = some (.loop { rec .ready none with state := .busy }) := World.putObj_heap_same hlt
      have hk2 : (W.putObj (w.heap.size + 1) (.loop { rec .ready none with state := .busy })).heap[w.heap.size]? = some (.deferred (some [])) := (World.putObj_heap_other (by omega)).trans hk
      refine wpIn_mono (hbody _ k _ hkN (by simpa using hsz) (hI.putObj _ hi (by omega) hl rfl) (hDat.putObj (s := ()) _ hdat (by omega) hl rfl)) ?_
      have fin : ∀ (jump : Option Code) (W3 : World), KeepsFrom w.heap.size (W.putObj (w.heap.size + 1) (.loop { rec .ready none with state := .busy })) W3 →
          (Instr.endRound (w.heap.size + 1) jump).run P W3 = .ok (.bool jump.isNone) (W3.putObj (w.heap.size + 1) (.loop (rec (if jump.isNone then .ready else .done) jump))) ∧
          W3.heap[w.heap.size + 1]? = some (.loop { rec .ready none with state := .busy }) ∧
          (W3.putObj (w.heap.size + 1) (.loop (rec (if jump.isNone then .ready else .done) jump))).heap[w.heap.size + 1]? = some (.loop (rec (if jump.isNone then .ready else .done) jump)) ∧
          (W3.putObj (w.heap.size + 1) (.loop (rec (if jump.isNone then .ready else .done) jump))).heap[w.heap.size]? = some (.deferred (some [])) ∧ w.heap.size ≤ W3.heap.size := fun jump W3 hk3 => by
        have hl3 := hk3.same _ _ (by omega) hl2 rfl
        have := run_endRound (P := P) jump hl3
        rw [hrec] at this ⊢
        exact ⟨this, by rw [hrec] at hl3; exact hl3, World.putObj_heap_same (Array.getElem?_eq_some_iff.1 hl3).1, (World.putObj_heap_other (by omega)).trans (hk3.same _ _ (Nat.le_refl _) hk2 rfl), Nat.le_trans (by simpa using hsz) hk3.size⟩
      rintro e a3 W3 hp
      cases e with
      | normal =>
        obtain ⟨hk3, hd3, hi3⟩ := hp
        obtain ⟨hr, hl3, hl4, hk4, hs4⟩ := fin none W3 hk3
        exact ⟨_, _, hr, .inl ⟨rfl, ⟨⟨hI.putObj _ hi3 (by omega) hl3 rfl, by simpa using hs4⟩, hl4, hk4⟩, hDat.putObj (s := ()) _ hd3 (by omega) hl3 rfl⟩⟩
      | ret =>
        obtain ⟨hk3, hi3⟩ := hp
        obtain ⟨hr, hl3, hl4, hk4, hs4⟩ := fin (some .ret) W3 hk3
        exact ⟨_, _, hr, .inr ⟨rfl, .ret, ⟨(hIx _).putObj _ hi3 (by omega) hl3 rfl, by simpa using hs4⟩, hl4, hk4⟩⟩
      | exit id =>
        obtain ⟨hk3, hi3⟩ := hp
        obtain ⟨hr, hl3, hl4, hk4, hs4⟩ := fin (some (.exit id)) W3 hk3
        exact ⟨_, _, hr, .inr ⟨rfl, .exit id, ⟨(hIx _).putObj _ hi3 (by omega) hl3 rfl, by simpa using hs4⟩, hl4, hk4⟩⟩
      | goto t =>
        obtain ⟨hk3, hi3⟩ := hp
        obtain ⟨hr, hl3, hl4, hk4, hs4⟩ := fin (some (.goto t)) W3 hk3
        exact ⟨_, _, hr, .inr ⟨rfl, .goto t, ⟨(hIx _).putObj _ hi3 (by omega) hl3 rfl, by simpa using hs4⟩, hl4, hk4⟩⟩
      | panic ch => exact hp.elim
      | outgrown => exact hp.elim
    · -- behind the iterator
      rintro e W2 ⟨⟨v, rfl⟩, (⟨⟨hi, hsz⟩, hl, hk⟩ | ⟨k, hkN, c, ⟨hi, hsz⟩, hl, hk⟩)⟩
      · exact ⟨none, _, by have := run_endLoop (P := P) hl (by rw [hrec]; simp); rw [hrec] at this; exact this, hdone _ _ (Nat.le_refl _) (by simpa using hsz) (hI.putObj _ hi (by omega) hl rfl) ((World.putObj_heap_other (by omega)).trans hk)⟩
      · exact ⟨some c, _, by have := run_endLoop (P := P) hl (by rw [hrec]; simp); rw [hrec] at this; exact this, wpIn_wide.2 (hstop _ c k _ (Nat.le_refl _) (by simpa using hsz) hkN ((hIx c).putObj _ hi (by omega) hl rfl) ((World.putObj_heap_other (by omega)).trans hk))⟩

/-- A function that holds a range over a function: its contract from its body's lone walk. -/
theorem calls_of_marks {P : Program} {f : FuncId} {fn : Func} {c : Code} {args : Array Value} {w : World} {R : Ending → World → Prop}
    (hf : P.funcs[f]? = some fn) (hb : fn.body = some c)
    (h : c.wp P (bodyPostM Fence.wide 0 P fn R) { tmps := args ++ Array.replicate (fn.ntmps - args.size) undef, defers := [] } w) : Calls P f args w R :=
  (callsIn_wide (n := 0)).1 (callsIn_of_wp_marks hf hb trivial (wpIn_wide.2 h))
/-! ### A round's drawn regions by the lone walk's words -/
def noDefer (ops : List Oper) : Bool := ops.all fun o => match o.op with | .defer _ => false | _ => true
theorem noDefer_at {ops : List Oper} (h : noDefer ops = true) {i : Nat} {o : Oper} (ho : ops.toArray[i]? = some o) : ∀ c, o.op ≠ .defer c := by
  intro c hc
  have hm : o ∈ ops := by
    have := Array.mem_of_getElem? ho
    simpa using this
  have := List.all_eq_true.1 h o hm
  rw [hc] at this
  cases this
theorem oper_round {P : Program} {r : Nat} {o : Oper} {a : Act} {w : World} {K : Act → World → Prop} {Q : Exit → Act → World → Prop} (hd : ∀ c, o.op ≠ .defer c)
    (h : o.wp P a w K Q) : o.wpIn (Fence.wide.inRound r) 0 P a w K Q := by
  refine ⟨fun _ _ => trivial, ?_⟩
  unfold Oper.wp at h
  show Oper.uponIn _ 0 P o a K Q ((o.semAt (some r) a.eval).run P w)
  rw [Oper.semAt_some r a.eval o hd]
  generalize (execOp a.eval o).run P w = res at *
  cases res with
  | ok x w' =>
    cases x with
    | value v => exact h
    | skip => exact h
    | defer d => exact h
    | enter f args => exact ⟨fun h => by simp [Fence.wide, Fence.inRound] at h, callsIn_wide.2 h⟩
    | row row args => exact ⟨fun h => by simp [Fence.wide, Fence.inRound] at h, fun c cs _ => let ⟨v, w2, hr, hs⟩ := h c cs; ⟨v, w2, hr, stepsIn_wide.2 hs⟩⟩
    | round l f tmps assign body => exact h.elim
    | _ => exact h.elim
  | halt x w' => cases x <;> exact h
theorem wpOp_round {P : Program} {r : Nat} {l : List Oper} {Q : Exit → Act → World → Prop} (hd : noDefer l = true) (hQ : ¬ LetsOut Q) {i : Nat} {K K' : Act → World → Prop} {a : Act} {w : World}
    (hK : ∀ a w, K a w → K' a w) (h : wpOp P l.toArray Q i K a w) : wpOpIn (Fence.wide.inRound r) 0 P l.toArray Q i K' a w := by
  unfold wpOp at h
  unfold wpOpIn
  split
  · rename_i ho; simp only [ho] at h; exact hK _ _ h
  · rename_i o ho
    simp only [ho] at h
    split
    · rename_i hw
      simp only [hw, if_true] at h
      rcases h with h | ⟨_, h⟩
      · exact Oper.wpIn_mono hK (oper_round (noDefer_at hd ho) h)
      · exact absurd h hQ
    · rename_i hw; simp only [hw] at h; exact ⟨fun _ _ => trivial, hK _ _ h⟩
theorem wpAny_round {P : Program} {r : Nat} {l : List Oper} {Q : Exit → Act → World → Prop} (hd : noDefer l = true) (hQ : ¬ LetsOut Q) {md : Region.Mode} :
    ∀ (fuel : Nat) (listed : Array Bool) (a : Act) (w : World), wpAny P md l.toArray Q fuel listed a w → wpAnyIn (Fence.wide.inRound r) 0 P md l.toArray Q fuel listed a w
  | 0, _, _, _, h => h
  | fuel + 1, _, _, _, h => ⟨h.1, fun i hi => wpOp_round hd hQ (fun a w h => wpAny_round hd hQ fuel _ a w h) (h.2 i hi)⟩
/-- a drawn region of a round: what yields is quiet but for a tail in one order -/
theorem round_still_tail {P : Program} {r : Nat} {id : Nat} {Q : Exit → Act → World → Prop} {a : Act} {w : World} {l : List Oper} (n : Nat) (hm : P.follows .mixedOrders = true) (hB : Region.lexTailB .any l.toArray n = true)
    (hd : noDefer l = true) (hQ : ¬ LetsOut Q)
    (h : wpStill P l.toArray { w with drawn := w.drawn + 1 } (fun a' => wpList P l.toArray Q (l.drop n) a' { w with drawn := w.drawn + 1 }) (l.take n) a) : (Code.region id l.toArray true).wpIn (Fence.wide.inRound r) 0 P Q a w := by
  simp only [Region.lexTailB, Bool.and_eq_true, decide_eq_true_eq] at hB
  obtain ⟨⟨⟨⟨hsel, hn⟩, hs⟩, hc⟩, hlex⟩ := hB
  have hn' : n < l.length := by simpa using hn
  have htl : (l.take n).length = n := by simp; omega
  have hdl : (l.drop n).length = l.toArray.size - n := by simp
  have inv0 : HeadInv .any l.toArray n (Array.replicate l.toArray.size false) :=
    ⟨by simp, fun j oj _ hl => (by rw [getD_replicate_false] at hl; cases hl), fun t _ ht => getD_in (by simpa using ht) (getD_replicate_false _ _)⟩
  have H := wpAnyL_lex (md := .any) (g := l.toArray.size - n) hsel hs hc hn (l.take n) 0 _ a (fun j hj => by
    have hj' : j < n := by rw [htl] at hj; exact hj
    simp [hj']) (by simpa using htl) inv0 (by rw [htl]; exact hlex) h
  refine wpIn_region_any hm (wpAny_round hd hQ _ _ _ _ ?_)
  have := wpAny_of_head (Q' := Q) (g := l.toArray.size - n) (fun listed a' hL => by
    have := wpAny_of_seq (md := .any) (Q' := Q) (l.drop n) n listed a' { w with drawn := w.drawn + 1 } (fun j => by simp [List.getElem?_drop]) (by rw [hdl]; exact hL.1) hL.2
    rwa [hdl] at this) _ _ _ H
  rw [htl, show n + (l.toArray.size - n) = l.toArray.size by omega] at this
  exact this
/-- a drawn region of a round whose operations yield one value in every world of a class -/
theorem round_quiet {P : Program} {r : Nat} {C : World → Prop} {id : Nat} {Q : Exit → Act → World → Prop} {a : Act} {w : World} {l : List Oper} (hm : P.follows .mixedOrders = true) (hB : Region.lexB .any l.toArray = true) (hC : C { w with drawn := w.drawn + 1 })
    (hd : noDefer l = true) (hQ : ¬ LetsOut Q)
    (h : wpQuiet P l.toArray C (fun a' => ∀ w', C w' → Q .normal a' w') l a) : (Code.region id l.toArray true).wpIn (Fence.wide.inRound r) 0 P Q a w := by
  simp only [Region.lexB, Bool.and_eq_true] at hB
  refine wpIn_region_any hm (wpAny_round hd hQ _ _ _ _ (wpAny_of_quiet (C := C) (Q := fun a' => ∀ w', C w' → Q .normal a' w') (fun _ w' hw' h => h w' hw') _ _ _ _ hC ?_))
  have := wpAnyQ_lex (C := C) (md := .any) hB.1 l.toArray.toList 0 (Array.replicate l.toArray.size false) a (by simp) (by simpa using hB.2) (by simpa using h)
  simpa using this
/-! ### What abides the law's book-keeping -/
theorem cellF_kept {B : Nat} {W W' : World} {row : Option Nat} {a : Addr} {v : Value} (h : W.cell? a = some v) (hg : W.grownBy W' row) (hr : ∀ r, row = some r → B ≤ r ∧ ∃ o : Obj, W.heap[r]? = some o ∧ o.isCells = false) : W'.cell? a = some v :=
  cell_kept h hg (fun r e => (hr r e).2)
theorem blk_kept {B : Nat} {W W' : World} {row : Option Nat} {k : Nat} {o : Obj} (h : W.heap[k]? = some o) (hc : o.isCells = true) (hg : W.grownBy W' row) (hr : ∀ r, row = some r → B ≤ r ∧ ∃ o : Obj, W.heap[r]? = some o ∧ o.isCells = false) : W'.heap[k]? = W.heap[k]? :=
  grownBy_keeps_cells hg (fun r e => (hr r e).2) h hc
theorem grown_kept {B : Nat} {w W W' : World} {row : Option Nat} {g : Option Nat} (h : w.grownBy W g) (hB : w.heap.size ≤ B) (hg : W.grownBy W' row) (hr : ∀ r, row = some r → B ≤ r ∧ ∃ o : Obj, W.heap[r]? = some o ∧ o.isCells = false) : w.grownBy W' g :=
  ⟨hg.os.trans h.os, hg.tape.trans h.tape, hg.output.trans h.output, Nat.le_trans h.size hg.size, fun k hk hn => (hg.block k (Nat.lt_of_lt_of_le hk h.size) (fun e => by have := (hr k e.symm).1; omega)).trans (h.block k hk hn)⟩
theorem grown_trans' {a b c : World} {g : Option Nat} (h : a.grownBy b g) (k : b.grownBy c g) : a.grownBy c g :=
  ⟨k.os.trans h.os, k.tape.trans h.tape, k.output.trans h.output, Nat.le_trans h.size k.size, fun i hi hn => (k.block i (Nat.lt_of_lt_of_le hi h.size) hn).trans (h.block i hi hn)⟩
theorem below_grown {w w' : World} (h : Below w.heap.size w w') (g : Option Nat) : w.grownBy w' g := ⟨h.os, h.tape, h.output, h.size, fun k hk _ => h.block k hk⟩
theorem grown_below {w w' : World} {B : Nat} {g : Nat} (h : w.grownBy w' (some g)) (hB : B ≤ g) (hs : B ≤ w.heap.size) : Below B w w' := ⟨h.os, h.tape, h.output, h.size, fun k hk => h.block k (by omega) (fun e => by cases e; omega)⟩
/-! ### Leaving a function with one loop's mark -/
theorem leave_mark {P : Program} {fn : Func} {R : Ending → World → Prop} {tmps : Array Value} {D : Nat} {V : World} {v : Value} (hK : V.heap[D]? = some (.deferred (some [])))
    (hv : (results fn tmps).run P (V.putObj D (.deferred none)) = .ok v (V.putObj D (.deferred none))) (hR : R (.returned v) (V.putObj D (.deferred none))) :
    LeavesInM Fence.wide 0 P fn tmps R [{ target := .collected D, args := #[] }] .returning V :=
  ⟨by simp, .inl ⟨_, _, rfl, run_takeDeferred hK, ⟨_, hv, hR⟩⟩⟩
theorem leave_none {P : Program} {fn : Func} {R : Ending → World → Prop} {tmps : Array Value} {D : Nat} {V : World} (hres : fn.results = #[]) (hK : V.heap[D]? = some (.deferred (some [])))
    (hR : ∀ v, R (.returned v) (V.putObj D (.deferred none))) : bodyPostM Fence.wide 0 P fn R .normal { tmps := tmps, defers := [{ target := .collected D, args := #[] }] } V :=
  leave_mark hK (results_none hres _ _ _) (hR _)
theorem leave_tmp {P : Program} {fn : Func} {R : Ending → World → Prop} {tmps : Array Value} {D t : Nat} {V : World} (hres : fn.results = #[.tmp t]) (hK : V.heap[D]? = some (.deferred (some [])))
    (hR : R (.returned (tmps.getD t undef)) (V.putObj D (.deferred none))) : bodyPostM Fence.wide 0 P fn R .ret { tmps := tmps, defers := [{ target := .collected D, args := #[] }] } V :=
  leave_mark hK (results_tmp hres _ _ _) hR
theorem leave_cell {P : Program} {fn : Func} {R : Ending → World → Prop} {tmps : Array Value} {D c : Nat} {ty : TypeId} {a : Addr} {v : Value} {V : World} (hres : fn.results = #[.cell c ty]) (hK : V.heap[D]? = some (.deferred (some [])))
    (ha : tmps.getD c undef = .pointer (some a)) (hl : ∀ W : World, W.cell? a = some v → (loadVar ty a).run P W = .ok v W) (hc : V.cell? a = some v)
    (hR : R (.returned v) (V.putObj D (.deferred none))) : bodyPostM Fence.wide 0 P fn R .ret { tmps := tmps, defers := [{ target := .collected D, args := #[] }] } V := by
  have hc' : (V.putObj D (.deferred none)).cell? a = some v := cell_kept hc (grownBy_putObj' V D _) (fun r e => by cases e; exact ⟨_, hK, rfl⟩)
  refine leave_mark hK ?_ hR
  have ha' : tmps[c]?.getD undef = .pointer (some a) := by simpa [Array.getD_eq_getD_getElem?] using ha
  simp only [results, hres]
  simp [ha', asAddr, hl _ hc']
theorem run_loadVar_plain {P : Program} {ty : TypeId} {d : TypeDesc} (h : P.underlying ty = some d) (hd : (match d with | .struct _ | .array _ _ => true | _ => false) = false) {a : Addr} {v : Value} {W : World} (hc : W.cell? a = some v) : (loadVar ty a).run P W = .ok v W := by
  have h1 := run_isAgg_plain (P := P) h hd W
  simp [loadVar, Sem.run_bind, h1, Result.andThen, load, Sem.run, hc]
end Go.Proofs.Ythjjelomlgmllaa.Tithe
