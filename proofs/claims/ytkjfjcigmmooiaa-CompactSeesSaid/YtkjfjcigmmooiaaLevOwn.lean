/- Rows of metas of a call's own, their refs of its own too; Version.Tables: walked. -/
import Derived.Test.YtkjfjcigmmooiaaLevCov
import Derived.Test.YtkjfjcigmmooiaaLevCopy
namespace Go.Proofs.Ytkjfjcigmmooiaa.Tithe
open Go.RowKit Go.Sort Go.Shelf
set_option linter.unusedVariables false
set_option linter.unusedSimpArgs false
set_option maxRecDepth 100000
theorem mtInfo3 : (Try.prog.info? 47).map (fun i => (i.zero, i.size, i.bytes)) = some (some (.agg #[.int .i64 0, .int .i64 0, .string ⟨#[]⟩, .int .i64 0, .int .i64 0, .string ⟨#[]⟩, .int .i64 0, .int .i64 0, .slice none 0 0]), 9, 104) := by kernel_rfl
/-- a row of metas of a call's own, and so their refs -/
def OwnMs (W : World) (base : Nat) (v : Value) (rows : List Mr) : Prop := W.ownsRow base 47 9 v rows.length (flat mrC rows) ∧ ∀ r ∈ rows, OwnRr W base r.2 r.1.refs
theorem OwnMs.isMr {W : World} {base : Nat} {v : Value} {rows : List Mr} (h : OwnMs W base v rows) : IsMr W v rows := ⟨isSl_own mrC_len h.1, fun r hr => (h.2 r hr).is⟩
theorem OwnMs.nil (W : World) (base : Nat) : OwnMs W base (.slice none 0 0) [] := ⟨World.ownsRow_nil _ _ _ _, fun r hr => by cases hr⟩
theorem OwnMs.below {W W' : World} {base : Nat} {v : Value} {rows : List Mr} (h : OwnMs W base v rows) (hb : Below W.heap.size W W') : OwnMs W' base v rows := ⟨own_below h.1 hb, fun r hr => own_below (h.2 r hr) hb⟩
theorem OwnMs.mono {W : World} {base b2 : Nat} {v : Value} {rows : List Mr} (h : OwnMs W base v rows) (hb : b2 ≤ base) : OwnMs W b2 v rows := ⟨own_mono h.1 hb, fun r hr => own_mono (h.2 r hr) hb⟩
theorem rr_kept {W W' : World} {base : Nat} {v : Value} {l : List (Int × Int)} {row : Option Nat} (h : OwnRr W base v l) (hg : W.grownBy W' row) (hr : ∀ g, row = some g → ∃ cur fr, W.heap[g]? = some (.cells cur 47 fr)) : OwnRr W' base v l :=
  own_typed h hg fun g e => by
    obtain ⟨cur, fr, hc⟩ := hr g e
    exact ⟨cur, _, fr, hc, by decide⟩
/-- another row of metas is written -/
theorem OwnMs.other {W W' : World} {base : Nat} {v : Value} {rows : List Mr} {row : Option Nat} (h : OwnMs W base v rows) (hg : W.grownBy W' row) (hne : v.ownBlock = none ∨ v.ownBlock ≠ row) (hr : ∀ g, row = some g → ∃ cur fr, W.heap[g]? = some (.cells cur 47 fr)) : OwnMs W' base v rows :=
  ⟨h.1.kept hg hne, fun r hm => rr_kept (h.2 r hm) hg hr⟩
/-- a block below is written -/
theorem OwnMs.far {W W' : World} {base : Nat} {v : Value} {rows : List Mr} {row : Option Nat} (h : OwnMs W base v rows) (hg : W.grownBy W' row) (hr : ∀ r, row = some r → r < base) : OwnMs W' base v rows :=
  ⟨own_far h.1 hg hr, fun r hm => own_far (h.2 r hm) hg hr⟩
theorem st_ms {β : Type} {B : Nat} (base : β → Nat) (v : β → Value) (rows : β → List Mr) : OwnFrom B (fun s W => OwnMs W (base s) (v s) (rows s)) :=
  st_and (st_own _ _ _ _ _ _) (fun s W W' row h hg hr r hm => st_own (fun _ => base s) _ _ (fun _ => r.2) (fun _ => r.1.refs.length) (fun _ => flat rfC r.1.refs) s W W' row (h r hm) hg hr)
theorem mrC_one {r : Mr} {W : World} {base : Nat} (h : OwnRr W base r.2 r.1.refs) : ∀ u ∈ mrC r, u.oneCell' = true := by
  obtain ⟨a, c, e⟩ := own_slice h
  intro u hu
  simp only [mrC, List.mem_cons, List.not_mem_nil, or_false] at hu
  rcases hu with rfl | rfl | rfl | rfl | rfl | rfl | rfl | rfl | rfl
  all_goals first | rfl | (rw [e]; rfl)
/-- one more row behind -/
theorem OwnMs.push {W W' : World} {base : Nat} {v v' : Value} {rows : List Mr} {r : Mr} (h : OwnMs W base v rows) (hr : OwnRr W base r.2 r.1.refs) (hown : W'.ownsRow base 47 9 v' (rows.length + 1) (flat mrC rows ++ mrC r)) (hg : W.grownBy W' v.ownBlock) : OwnMs W' base v' (rows ++ [r]) := by
  have hrow : ∀ g, v.ownBlock = some g → ∃ cur fr, W.heap[g]? = some (.cells cur 47 fr) := fun g e => by
    obtain ⟨cur, hc⟩ := own_rowblk h.1 g e
    exact ⟨cur, _, hc⟩
  refine ⟨by rw [List.length_append, flat_append, flat_one]; exact hown, fun q hq => ?_⟩
  rcases List.mem_append.1 hq with hq | hq
  · exact rr_kept (h.2 q hq) hg hrow
  · rw [List.mem_singleton.1 hq]; exact rr_kept hr hg hrow
/-- one more row is appended: the run of it -/
theorem push_run (W0 : World) (base : Nat) (xa : Option Addr) (rl xc : Nat) (rows : List Mr) (r : Mr) (hms : OwnMs W0 base (.slice xa rl xc) rows) (hr : OwnRr W0 base r.2 r.1.refs) (hl : rl ≤ 1000000) (hb : base ≤ W0.heap.size) (o : List Value) (ho : o = mrC r) :
    ∃ ya yc w2, (Builtin.append_ #[55, 55] 55 #[.slice xa rl xc, .slice (some ⟨W0.heap.size, 0, none⟩) 1 1]).run Try.prog (W0.alloc (.cells o.toArray 47)) = .ok (.slice ya (rl + 1) yc) w2 ∧
      OwnMs w2 base (.slice ya (rl + 1) yc) (rows ++ [r]) ∧ (W0.alloc (.cells o.toArray 47)).grownBy w2 (Value.slice xa rl xc).ownBlock ∧ ∀ q, (Value.slice ya (rl + 1) yc).ownBlock = some q → (Value.slice xa rl xc).ownBlock = some q ∨ W0.heap.size ≤ q := by
  subst ho
  obtain ⟨i0, hi0, hz0, hz1, hz2⟩ := info_partsL mtInfo3
  have hal : Below W0.heap.size W0 (W0.alloc (.cells (mrC r).toArray 47)) := (Below.refl _ _).alloc (Nat.le_refl _) _
  have hms' := hms.below hal
  have hrl : rl = rows.length := by
    rcases hms.1.2 with ⟨e, h⟩ | ⟨g, cap, cur, e, -⟩
    · injection e with _ e _; rw [e, h]
    · injection e with _ e _
  obtain ⟨g, yc, w2, hrun, hown, hg, hlies, -⟩ := run_append_lies (P := Try.prog) (W0.alloc (.cells (mrC r).toArray 47)) 55 55 base 47 i0 (.agg #[.int .i64 0, .int .i64 0, .string ⟨#[]⟩, .int .i64 0, .int .i64 0, .string ⟨#[]⟩, .int .i64 0, .int .i64 0, .slice none 0 0]) 9 104 Try.underlying55 hi0 hz0 hz1 hz2 rfl (by decide)
    (.slice xa rl xc) rows.length (flat mrC rows) hms'.1 ⟨W0.heap.size, 0, none⟩ 1 1 (mrC r) rfl (newsL _ _ rfl _ _ rfl) (mrC_one hr) (by omega) (by unfold maxLen; omega) (by omega) (by simp; omega) _ rfl
  refine ⟨some ⟨g, 0, none⟩, yc, w2, by rw [hrl] at hrun ⊢; exact hrun, ?_, hg, ?_⟩
  · rw [hrl]
    exact hms'.push (own_below hr hal) hown hg
  · intro q hq
    cases hq
    rcases hlies with h | h
    · exact .inl h
    · right
      rw [h, World.size_alloc]
      exact Nat.le_succ _
theorem keeps_push {W W' : World} {base : Nat} {v : Value} {rows : List Mr} (h : OwnMs W base v rows) (hg : W.grownBy W' v.ownBlock) : KeepsOthers W W' :=
  KeepsOthers.of_grownBy hg (fun i ob hi ho => by
    obtain ⟨cur, hc⟩ := own_rowblk h.1 i hi
    rw [hc] at ho
    cases ho; rfl)
/-- what has become where a copy was appended to a row of a call's own -/
structure CopyOut (Y : World) (base : Nat) (x x' : Value) (w2 : World) (rows rows' : List Mr) : Prop where
  keeps : KeepsOthers Y w2
  low : ∀ (i : Nat) (ob : Obj), i < base → Y.heap[i]? = some ob → w2.heap[i]? = some ob
  bel : ∀ (B : Nat) (u : World), B ≤ base → Below B u Y → Below B u w2
  own : OwnMs w2 base x' rows'
  grown : ∃ W1, Below Y.heap.size Y W1 ∧ W1.grownBy w2 x.ownBlock
  lies : ∀ q, x'.ownBlock = some q → x.ownBlock = some q ∨ Y.heap.size ≤ q
/-- a copy is appended to a row that a variable holds: what a drawn region of it needs -/
theorem copy_push (Y : World) (base : Nat) (c : Addr) (xa : Option Addr) (rl xc : Nat) (rows : List Mr) (mz mn : Int) (a b : Ky) (refs : List (Int × Int)) (hc : c.block < base) (hb : base ≤ Y.heap.size) (hcell : Y.cell? c = some (.slice xa rl xc)) (hfz : Y.frozen? c = false) (hms : OwnMs Y base (.slice xa rl xc) rows) (hl : rl ≤ 1000000)
    (w1 : World) (va : Option Addr) (vc : Nat) (ho1 : OwnRr w1 Y.drew.heap.size (.slice va refs.length vc) refs) (hb1 : Below Y.drew.heap.size Y.drew w1) :
    w1.cell? c = some (.slice xa rl xc) ∧ ∃ (ya : Option Addr) (yc : Nat) (w2 : World), (Builtin.append_ #[55, 55] 55 #[.slice xa rl xc, .slice (some ⟨w1.heap.size, 0, none⟩) 1 1]).run Try.prog (w1.alloc (.cells #[.int .i64 mz, .int .i64 mn, .string a.u, .int .i64 a.s, .int .i64 a.k, .string b.u, .int .i64 b.s, .int .i64 b.k, .slice va refs.length vc] 47)) = .ok (.slice ya (rl + 1) yc) w2 ∧ w2.cell? c = some (.slice xa rl xc) ∧ w2.frozen? c = false ∧
      Hid (CopyOut Y base (.slice xa rl xc) (.slice ya (rl + 1) yc) w2 rows (rows ++ [(⟨mz, mn, a, b, refs⟩, .slice va refs.length vc)])) := by
  have hb1' : Below Y.heap.size Y w1 := (Below.refl Y.heap.size Y).drew.trans hb1
  have hms1 : OwnMs w1 base (.slice xa rl xc) rows := hms.below hb1'
  obtain ⟨ya, yc, w2, happ, hms2, hg2, hlies⟩ := push_run w1 base xa rl xc rows (⟨mz, mn, a, b, refs⟩, .slice va refs.length vc) hms1 (own_mono ho1 hb) hl (Nat.le_trans hb hb1'.size) [.int .i64 mz, .int .i64 mn, .string a.u, .int .i64 a.s, .int .i64 a.k, .string b.u, .int .i64 b.s, .int .i64 b.k, .slice va refs.length vc] rfl
  have hlow : ∀ g, (Value.slice xa rl xc).ownBlock = some g → base ≤ g := fun g e => (hms1.1.lt g e).1
  have hk2 : ∀ (i : Nat) (ob : Obj), i < base → Y.heap[i]? = some ob → w2.heap[i]? = some ob := fun i ob hi h => by
    have h1 := blk_old (blk_bels hb1' h) (.cells #[.int .i64 mz, .int .i64 mn, .string a.u, .int .i64 a.s, .int .i64 a.k, .string b.u, .int .i64 b.s, .int .i64 b.k, .slice va refs.length vc] 47)
    exact (hg2.block i (blk_lt h1) (fun e => by have := hlow i e.symm; omega)).trans h1
  have hsame : w2.heap[c.block]? = Y.heap[c.block]? := by
    have hlt : c.block < Y.heap.size := Nat.lt_of_lt_of_le hc hb
    rw [Array.getElem?_eq_getElem hlt]
    exact hk2 _ _ hc (Array.getElem?_eq_getElem hlt)
  refine ⟨(World.cell?_of_block (hb1'.block c.block (Nat.lt_of_lt_of_le hc hb))).trans hcell, ya, yc, w2, happ, (World.cell?_of_block hsame).trans hcell, (World.frozen?_of_block hsame).trans hfz, ((keeps_below' hb1').trans (KeepsOthers.alloc _ _)).trans (keeps_push (hms1.below ((Below.refl _ _).alloc (Nat.le_refl _) _)) hg2), hk2, ?_, hms2, ⟨_, hb1'.alloc hb1'.size _, hg2⟩, fun q hq => ?_⟩
  · intro B u hB hbu
    exact ((hbu.trans (hb1'.mono (Nat.le_trans hB hb))).alloc (Nat.le_trans hB (Nat.le_trans hb hb1'.size)) _).grown hg2 (Nat.le_trans hB (Nat.le_trans hb (Nat.le_trans hb1'.size (by simp)))) (fun g e => by have := hlow g e; omega)
  · rcases hlies q hq with h | h
    · exact .inl h
    · exact .inr (Nat.le_trans hb1'.size h)
/-! ### Tables -/
def TabI (w : World) (base : Nat) (V : Vn) (k : Nat) (W : World) : Prop :=
  W.heap[w.heap.size]? = some (.cells V.cells 58 (0, 0)) ∧ (∃ x rows, W.heap[w.heap.size + 1]? = some (.cells #[x] 55 (0, 0)) ∧ OwnMs W base x rows ∧ rows.map (·.1) = ((tabs V.l 4).take k).map (·.2.1)) ∧
  W.heap[w.heap.size + 1 + 1]? = some (.cells #[.pointer (some ⟨w.heap.size, 0, none⟩)] 127 (0, 0)) ∧ Below w.heap.size w W
theorem tabI_own {w : World} {base : Nat} {V : Vn} {B : Nat} (hB : w.heap.size ≤ B) : OwnFrom B (TabI w base V) :=
  st_and (st_blk _ _ _ _) (st_and (st_ex fun x => st_ex fun rows => st_and (st_blk _ _ _ _) (st_and (st_ms _ _ _) (st_pure _))) (st_and (st_blk _ _ _ _) (st_below (Nat.le_refl _) hB)))
attribute [local go_sem] Oper.semAt_some
end Go.Proofs.Ytkjfjcigmmooiaa.Tithe
