/- A RANGE OVER A FUNCTION whose iterator only makes memory of its own (after XRangeK): what holds ahead of each round is stable, so the iterator's data follow from it. -/
import Derived.Test.YthjjelomlgmllaaRangeK
import Derived.Deep.RegionHeld3
namespace Go.Proofs.Ythjjelomlgmllaa.Tithe
open Go.RowKit Go.Shelf Go.Sort
set_option linter.unusedVariables false
def IterOkS (P : Program) (gf : Nat) (lb : Array Value) (encs : Nat → Array Value) (N : Nat) (Dat : World → Prop) : Prop :=
  ∀ (l : Nat) (J Jx : Nat → World → Prop) (W : World), (∀ k A, J k A → Dat A) →
    (∀ k A B, J k A → A.grownBy B none → J k B) → (∀ k A B, Jx k A → A.grownBy B none → Jx k B) →
    (∀ k W1, k < N → J k W1 → YieldAt Fence.wide 0 P l (encs k) W1 fun e W' => (e = .returned (.bool true) ∧ J (k + 1) W') ∨ (e = .returned (.bool false) ∧ Jx k W')) →
    J 0 W →
    CallsIn Fence.wide 0 P gf (#[.func (.yield l) #[] #[]] ++ lb) W fun e W' => (∃ v, e = .returned v) ∧ (J N W' ∨ ∃ k, k < N ∧ Jx k W')
/-- HOW THE BODY OF A ROUND MAY BE LEFT. -/
def roundEndS (B : Nat) (I : Nat → World → Prop) (Ix : Code → Nat → World → Prop) (k : Nat) (W : World) : Exit → Act → World → Prop
  | .normal, _, W' => KeepsFrom B W W' ∧ I (k + 1) W'
  | .ret, _, W' => KeepsFrom B W W' ∧ Ix .ret k W'
  | .exit id, _, W' => KeepsFrom B W W' ∧ Ix (.exit id) k W'
  | .goto t, _, W' => KeepsFrom B W W' ∧ Ix (.goto t) k W'
  | .panic _, _, _ => False
  | .outgrown, _, _ => False
/-- the law's own book-keeping between a round's assigning part and its body -/
def BookTurn (B : Nat) (W W' : World) : Prop := ∃ row, W.grownBy W' row ∧ ∀ r, row = some r → B ≤ r ∧ ∃ o : Obj, W.heap[r]? = some o ∧ o.isCells = false
theorem grownNone {A B : World} (h : A.grownBy B none) : KeepsOthers A B := ⟨h.size, fun k o hk _ => (h.block k (Array.getElem?_eq_some_iff.1 hk).1 (by simp)).trans hk⟩
theorem grownBy_putObj (W : World) (l : Nat) (o : Obj) : W.grownBy (W.putObj l o) (some l) :=
  ⟨rfl, rfl, rfl, by simp, fun k _ hn => World.putObj_heap_other (fun e => hn (by rw [e]))⟩
theorem below_none {A B : World} (h : Below A.heap.size A B) : A.grownBy B none := ⟨h.os, h.tape, h.output, h.size, fun k hk _ => h.block k hk⟩
theorem range_lawS {P : Program} {g : Operand} {ps : Array Tmp} {assign body : Code} {Q : Exit → Act → World → Prop} {a : Act} {w : World}
    {gf : Nat} {lb : Array Value} (hg : a.eval g = .func (.func gf) #[] lb) (eg : ∀ args w, (callFunc gf args).run P w = .ok (.enter gf args) w)
    {encs : Nat → Array Value} {N : Nat} {Dat : World → Prop} (hseq : IterOkS P gf lb encs N Dat) (hps : ∀ k, (encs k).size = ps.size)
    (I : Nat → World → Prop) (Ix : Code → Nat → World → Prop) (hD : ∀ k W, I k W → Dat W) (hI : OwnFrom w.heap.size I) (hIx : ∀ c, OwnFrom w.heap.size (Ix c)) (h0 : I 0 w)
    (hround : ∀ (l k : Nat) (W : World), k < N → w.heap.size ≤ W.heap.size → I k W →
      assign.wpIn (Fence.wide.inRound l) 0 P (Exit.then (fun a2 W2 => KeepsFrom w.heap.size W W2 ∧ ∀ W3, BookTurn w.heap.size W2 W3 → body.wpIn (Fence.wide.inRound l) 0 P (roundEndS w.heap.size I Ix k W3) a2 W3) (fun _ _ _ => False)) { tmps := (ps.zip (encs k)).foldl (fun t (p, v) => t.setIfInBounds p v) a.tmps, defers := [] } W)
    (hdone : ∀ (D : Nat) (W : World), w.heap.size ≤ D → w.heap.size ≤ W.heap.size → I N W → W.heap[D]? = some (.deferred (some [])) → Q .normal { a with defers := { target := .collected D, args := #[] } :: a.defers } W)
    (hstop : ∀ (D : Nat) (c : Code) (k : Nat) (W : World), w.heap.size ≤ D → w.heap.size ≤ W.heap.size → k < N → Ix c k W → W.heap[D]? = some (.deferred (some [])) → c.wp P Q { a with defers := { target := .collected D, args := #[] } :: a.defers } W) :
    (Code.rangeFunc g ps assign body).wp P Q a w := by
  refine (wpIn_wide (n := 0)).1 (wpIn_rangeFunc ?_)
  intro fn hfn
  show ∃ l mark w₁ d w₁' f args w₂, (Instr.enterLoop fn a.tmps ps assign body none).run P w = .ok (l, mark) w₁ ∧ _
  obtain ⟨rec, hrec⟩ : ∃ rec : LoopState → Option Code → Loop, rec = fun st pe => { state := st, pending := pe, fn, tmps := a.tmps, params := ps, assign, body, defers := w.heap.size } := ⟨_, rfl⟩
  obtain ⟨W1, hW1⟩ : ∃ W1, (w.alloc (.deferred (some []))).alloc (.loop (rec .ready none)) = W1 := ⟨_, rfl⟩
  have hL1 : W1.heap[w.heap.size + 1]? = some (.loop (rec .ready none)) := by
    rw [← hW1]; have := World.alloc_heap_new (w.alloc (.deferred (some []))) (.loop (rec .ready none)); rwa [World.size_alloc] at this
  have hK1 : W1.heap[w.heap.size]? = some (.deferred (some [])) := by
    rw [← hW1]; exact (Below.heap_alloc _ _ _ (by simp)).trans (World.alloc_heap_new w _)
  have hI1 : I 0 W1 := by rw [← hW1]; exact hI.alloc _ (hI.alloc _ h0)
  have hs1 : w.heap.size ≤ W1.heap.size := by rw [← hW1]; simp; omega
  refine ⟨w.heap.size + 1, [{ target := .collected w.heap.size, args := #[] }], W1, { target := .fn (.func gf) lb, args := #[.func (.yield (w.heap.size + 1)) #[] #[]] }, W1, gf,
    #[.func (.yield (w.heap.size + 1)) #[] #[]] ++ lb, W1, ?_, ?_, ?_, ?_, fun h => by simp [Fence.wide] at h, ?_⟩
  · rw [← hW1, hrec]; exact run_enterLoop_outer _ _ _ _ _
  · simp only [resolve, hg]
    simp [go_sem]
  · intro f' _; trivial
  · simp [invoke, go_sem, eg]
  · refine (calls_anyDepth (hseq (w.heap.size + 1)
      (fun k W => (I k W ∧ w.heap.size ≤ W.heap.size) ∧ W.heap[w.heap.size + 1]? = some (.loop (rec .ready none)) ∧ W.heap[w.heap.size]? = some (.deferred (some [])))
      (fun k W => ∃ c, (Ix c k W ∧ w.heap.size ≤ W.heap.size) ∧ W.heap[w.heap.size + 1]? = some (.loop (rec .done (some c))) ∧ W.heap[w.heap.size]? = some (.deferred (some [])))
      W1 (fun k A h => hD k A h.1.1)
      (fun k A B hs hg' => ⟨⟨hI k A B none hs.1.1 hg' (fun r e => by cases e), Nat.le_trans hs.1.2 hg'.size⟩, (grownNone hg').same _ _ hs.2.1 rfl, (grownNone hg').same _ _ hs.2.2 rfl⟩)
      (fun k A B hs hg' => by
        obtain ⟨c, hc, hl, hk⟩ := hs
        exact ⟨c, ⟨hIx c k A B none hc.1 hg' (fun r e => by cases e), Nat.le_trans hc.2 hg'.size⟩, (grownNone hg').same _ _ hl rfl, (grownNone hg').same _ _ hk rfl⟩)
      ?_ ⟨⟨hI1, hs1⟩, hL1, hK1⟩)).mono ?_
    · -- one round
      rintro k W hkN ⟨⟨hi, hsz⟩, hl, hk⟩
      have hlt : w.heap.size + 1 < W.heap.size := (Array.getElem?_eq_some_iff.1 hl).1
      have hy := run_yield (P := P) (args := encs k) hl (by rw [hrec]; exact hps k)
      rw [hrec] at hy
      refine ⟨fn, _, assign, body, hy, roundIn_of_wpIn hfn (wpIn_mono (hround _ k W hkN hsz hi) ?_)⟩
      rintro e a2 W0 hp
      match e, hp with
      | .normal, hp =>
      obtain ⟨hkp, hgo⟩ : KeepsFrom w.heap.size W W0 ∧ _ := hp
      have hl0 := hl
      have hk0 := hk
      replace hl : W0.heap[w.heap.size + 1]? = some (.loop (rec .ready none)) := hkp.same _ _ (by omega) hl0 rfl
      replace hk : W0.heap[w.heap.size]? = some (.deferred (some [])) := hkp.same _ _ (Nat.le_refl _) hk0 rfl
      have hlt : w.heap.size + 1 < W0.heap.size := (Array.getElem?_eq_some_iff.1 hl).1
      replace hsz : w.heap.size ≤ W0.heap.size := by omega
      show ∃ _, _
      refine ⟨_, run_beginRound hl (by rw [hrec]), ?_⟩
      have hl2 : (W0.putObj (w.heap.size + 1) (.loop { rec .ready none with state := .busy })).heap[w.heap.size + 1]? = some (.loop { rec .ready none with state := .busy }) := World.putObj_heap_same hlt
      have hk2 : (W0.putObj (w.heap.size + 1) (.loop { rec .ready none with state := .busy })).heap[w.heap.size]? = some (.deferred (some [])) := (World.putObj_heap_other (by omega)).trans hk
      refine wpIn_mono (hgo _ ⟨some (w.heap.size + 1), grownBy_putObj W0 _ _, fun r e => by cases e; exact ⟨by omega, _, hl, rfl⟩⟩) ?_
      have fin : ∀ (jump : Option Code) (W3 : World), KeepsFrom w.heap.size (W0.putObj (w.heap.size + 1) (.loop { rec .ready none with state := .busy })) W3 →
          (Instr.endRound (w.heap.size + 1) jump).run P W3 = .ok (.bool jump.isNone) (W3.putObj (w.heap.size + 1) (.loop (rec (if jump.isNone then .ready else .done) jump))) ∧
          W3.heap[w.heap.size + 1]? = some (.loop { rec .ready none with state := .busy }) ∧
          (W3.putObj (w.heap.size + 1) (.loop (rec (if jump.isNone then .ready else .done) jump))).heap[w.heap.size + 1]? = some (.loop (rec (if jump.isNone then .ready else .done) jump)) ∧
          (W3.putObj (w.heap.size + 1) (.loop (rec (if jump.isNone then .ready else .done) jump))).heap[w.heap.size]? = some (.deferred (some [])) ∧ w.heap.size ≤ W3.heap.size := fun jump W3 hk3 => by
        have hl3 := hk3.same _ _ (by omega) hl2 rfl
        have := run_endRound (P := P) jump hl3
        rw [hrec] at this ⊢
        exact ⟨this, by rw [hrec] at hl3; exact hl3, World.putObj_heap_same (Array.getElem?_eq_some_iff.1 hl3).1, (World.putObj_heap_other (by omega)).trans (hk3.same _ _ (Nat.le_refl _) hk2 rfl), Nat.le_trans (by simpa using hsz) hk3.size⟩
      rintro e a3 W3 hp
      cases e with
      | normal =>
        obtain ⟨hk3, hi3⟩ := hp
        obtain ⟨hr, hl3, hl4, hk4, hs4⟩ := fin none W3 hk3
        exact ⟨_, _, hr, .inl ⟨rfl, ⟨⟨hI.putObj _ hi3 (by omega) hl3 rfl, by simpa using hs4⟩, hl4, hk4⟩⟩⟩
      | ret =>
        obtain ⟨hk3, hi3⟩ := hp
        obtain ⟨hr, hl3, hl4, hk4, hs4⟩ := fin (some .ret) W3 hk3
        exact ⟨_, _, hr, .inr ⟨rfl, .ret, ⟨(hIx _).putObj _ hi3 (by omega) hl3 rfl, by simpa using hs4⟩, hl4, hk4⟩⟩
      | exit id =>
        obtain ⟨hk3, hi3⟩ := hp
        obtain ⟨hr, hl3, hl4, hk4, hs4⟩ := fin (some (.exit id)) W3 hk3
        exact ⟨_, _, hr, .inr ⟨rfl, .exit id, ⟨(hIx _).putObj _ hi3 (by omega) hl3 rfl, by simpa using hs4⟩, hl4, hk4⟩⟩
      | goto t =>
        obtain ⟨hk3, hi3⟩ := hp
        obtain ⟨hr, hl3, hl4, hk4, hs4⟩ := fin (some (.goto t)) W3 hk3
        exact ⟨_, _, hr, .inr ⟨rfl, .goto t, ⟨(hIx _).putObj _ hi3 (by omega) hl3 rfl, by simpa using hs4⟩, hl4, hk4⟩⟩
      | panic ch => exact hp.elim
      | outgrown => exact hp.elim
    · -- behind the iterator
      rintro e W2 ⟨⟨v, rfl⟩, (⟨⟨hi, hsz⟩, hl, hk⟩ | ⟨k, hkN, c, ⟨hi, hsz⟩, hl, hk⟩)⟩
      · exact ⟨none, _, by have := run_endLoop (P := P) hl (by rw [hrec]; simp); rw [hrec] at this; exact this, hdone _ _ (Nat.le_refl _) (by simpa using hsz) (hI.putObj _ hi (by omega) hl rfl) ((World.putObj_heap_other (by omega)).trans hk)⟩
      · exact ⟨some c, _, by have := run_endLoop (P := P) hl (by rw [hrec]; simp); rw [hrec] at this; exact this, wpIn_wide.2 (hstop _ c k _ (Nat.le_refl _) (by simpa using hsz) hkN ((hIx c).putObj _ hi (by omega) hl rfl) ((World.putObj_heap_other (by omega)).trans hk))⟩


/-- a drawn region of a round, loads beside calls that make memory: the lone walk's words -/
theorem round_held {P : Program} {r : Nat} {S : World → Prop} {id : Nat} {Q : Exit → Act → World → Prop} {a : Act} {w : World} {l : List Oper} (hm : P.follows .mixedOrders = true) (hd : noDefer l = true) (hQ : ¬ LetsOut Q) (hS : S w.drew)
    (h : S w.drew → wpAnyH P .any l.toArray Q S l.toArray.size (Array.replicate l.toArray.size false) a w.drew) : (Code.region id l.toArray true).wpIn (Fence.wide.inRound r) 0 P Q a w :=
  wpIn_region_any hm (wpAny_round hd hQ _ _ _ _ (wpAny_of_held _ _ _ _ (h hS)))
/-! ### what is stable -/
section
variable {β : Type} {B : Nat}
theorem st_and {I J : β → World → Prop} (h : OwnFrom B I) (k : OwnFrom B J) : OwnFrom B (fun s W => I s W ∧ J s W) := h.and k
theorem st_ex {γ : Type} {I : γ → β → World → Prop} (h : ∀ x, OwnFrom B (I x)) : OwnFrom B (fun s W => ∃ x, I x s W) := fun s W W' row ⟨x, hs⟩ hg hr => ⟨x, h x s W W' row hs hg hr⟩
theorem st_pure (p : β → Prop) : OwnFrom B (fun s (_ : World) => p s) := fun _ _ _ _ hs _ _ => hs
theorem st_blk (b : β → Nat) (cs : β → Array Value) (t : TypeId) (fr : Nat × Nat) : OwnFrom B (fun s W => W.heap[b s]? = some (.cells (cs s) t fr)) := fun s W W' row h hg hr => (blk_kept h rfl hg hr).trans h
theorem st_own (base : β → Nat) (e : TypeId) (size : Nat) (v : β → Value) (n : β → Nat) (xs : β → List Value) : OwnFrom B (fun s W => W.ownsRow (base s) e size (v s) (n s) (xs s)) := by
  intro s W W' row h hg hr
  refine ⟨h.1, ?_⟩
  rcases h.2 with h0 | ⟨g, cap, cur, hv, hb, hh, r⟩
  · exact .inl h0
  · exact .inr ⟨g, cap, cur, hv, hb, (blk_kept hh rfl hg hr).trans hh, r⟩
theorem st_below {n₀ : Nat} {w₀ : World} (hn : n₀ ≤ w₀.heap.size) (hB : n₀ ≤ B) : OwnFrom B (fun (_ : β) W => Below n₀ w₀ W) := ownFrom_below hn hB
theorem st_turn {I : β → World → Prop} (h : OwnFrom B I) {s : β} {W W' : World} (hb : BookTurn B W W') (hs : I s W) : I s W' := by
  obtain ⟨row, hg, hr⟩ := hb
  exact h s W W' row hs hg hr
theorem blk_turn {W W' : World} (hb : BookTurn B W W') {b : Nat} {cs : Array Value} {t : TypeId} {fr : Nat × Nat} (h : W.heap[b]? = some (.cells cs t fr)) : W'.heap[b]? = some (.cells cs t fr) :=
  st_turn (I := fun (_ : Unit) W => W.heap[b]? = some (.cells cs t fr)) (s := ()) (st_blk (fun _ => b) (fun _ => cs) t fr) hb h
theorem keeps_below' {X Y : World} (h : Below X.heap.size X Y) : KeepsOthers X Y :=
  ⟨h.size, fun k o hk ho => (h.block k (Array.getElem?_eq_some_iff.1 hk).1).trans hk⟩
theorem BookTurn.size {W W' : World} (hb : BookTurn B W W') : W.heap.size ≤ W'.heap.size := by obtain ⟨row, hg, -⟩ := hb; exact hg.size
end
end Go.Proofs.Ythjjelomlgmllaa.Tithe
