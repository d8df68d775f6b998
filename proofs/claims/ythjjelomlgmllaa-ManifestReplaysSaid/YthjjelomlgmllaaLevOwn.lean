/- Rows of metas of a call's own, their refs of its own too; Version.Tables: walked. -/
import Derived.Test.YthjjelomlgmllaaLevCov
import Derived.Test.YthjjelomlgmllaaLevCopy
namespace Go.Proofs.Ythjjelomlgmllaa.Tithe
open Go.RowKit Go.Sort Go.Shelf
set_option linter.unusedVariables false
set_option linter.unusedSimpArgs false
set_option maxRecDepth 100000
theorem mtInfo3 : (Try.prog.info? 78).map (fun i => (i.zero, i.size, i.bytes)) = some (some (.agg #[.int .i64 0, .int .i64 0, .string ⟨#[]⟩, .int .i64 0, .int .i64 0, .string ⟨#[]⟩, .int .i64 0, .int .i64 0, .slice none 0 0]), 9, 104) := by kernel_rfl
/-- a row of metas of a call's own, and so their refs -/
def OwnMs (W : World) (base : Nat) (v : Value) (rows : List Mr) : Prop := W.ownsRow base 78 9 v rows.length (flat mrC rows) ∧ ∀ r ∈ rows, OwnRr W base r.2 r.1.refs
theorem OwnMs.isMr {W : World} {base : Nat} {v : Value} {rows : List Mr} (h : OwnMs W base v rows) : IsMr W v rows := ⟨isSl_own mrC_len h.1, fun r hr => (h.2 r hr).is⟩
theorem OwnMs.nil (W : World) (base : Nat) : OwnMs W base (.slice none 0 0) [] := ⟨World.ownsRow_nil _ _ _ _, fun r hr => by cases hr⟩
theorem OwnMs.below {W W' : World} {base : Nat} {v : Value} {rows : List Mr} (h : OwnMs W base v rows) (hb : Below W.heap.size W W') : OwnMs W' base v rows := ⟨own_below h.1 hb, fun r hr => own_below (h.2 r hr) hb⟩
theorem OwnMs.mono {W : World} {base b2 : Nat} {v : Value} {rows : List Mr} (h : OwnMs W base v rows) (hb : b2 ≤ base) : OwnMs W b2 v rows := ⟨own_mono h.1 hb, fun r hr => own_mono (h.2 r hr) hb⟩
theorem rr_kept {W W' : World} {base : Nat} {v : Value} {l : List (Int × Int)} {row : Option Nat} (h : OwnRr W base v l) (hg : W.grownBy W' row) (hr : ∀ g, row = some g → ∃ cur fr, W.heap[g]? = some (.cells cur 78 fr)) : OwnRr W' base v l :=
  own_typed h hg fun g e => by
    obtain ⟨cur, fr, hc⟩ := hr g e
    exact ⟨cur, _, fr, hc, by decide⟩
/-- another row of metas is written -/
theorem OwnMs.other {W W' : World} {base : Nat} {v : Value} {rows : List Mr} {row : Option Nat} (h : OwnMs W base v rows) (hg : W.grownBy W' row) (hne : v.ownBlock = none ∨ v.ownBlock ≠ row) (hr : ∀ g, row = some g → ∃ cur fr, W.heap[g]? = some (.cells cur 78 fr)) : OwnMs W' base v rows :=
  ⟨h.1.kept hg hne, fun r hm => rr_kept (h.2 r hm) hg hr⟩
/-- a block below is written -/
theorem OwnMs.far {W W' : World} {base : Nat} {v : Value} {rows : List Mr} {row : Option Nat} (h : OwnMs W base v rows) (hg : W.grownBy W' row) (hr : ∀ r, row = some r → r < base) : OwnMs W' base v rows :=
  ⟨own_far h.1 hg hr, fun r hm => own_far (h.2 r hm) hg hr⟩
theorem st_ms {β : Type} {B : Nat} (base : β → Nat) (v : β → Value) (rows : β → List Mr) : OwnFrom B (fun s W => OwnMs W (base s) (v s) (rows s)) :=
  st_and (st_own _ _ _ _ _ _) (fun s W W' row h hg hr r hm => st_own (fun _ => base s) _ _ (fun _ => r.2) (fun _ => r.1.refs.length) (fun _ => flat rfC r.1.refs) s W W' row (h r hm) hg hr)
theorem mrC_one {r : Mr} {W : World} {base : Nat} (h : OwnRr W base r.2 r.1.refs) : ∀ u ∈ mrC r, u.oneCell' = true := by
  obtain ⟨a, c, e⟩ := own_slice h
  intro u hu
  simp only [mrC, List.mem_cons, List.not_mem_nil, or_false] at hu
  rcases hu with rfl | rfl | rfl | rfl | rfl | rfl | rfl | rfl | rfl
  all_goals first | rfl | (rw [e]; rfl)
/-- one more row behind -/
theorem OwnMs.push {W W' : World} {base : Nat} {v v' : Value} {rows : List Mr} {r : Mr} (h : OwnMs W base v rows) (hr : OwnRr W base r.2 r.1.refs) (hown : W'.ownsRow base 78 9 v' (rows.length + 1) (flat mrC rows ++ mrC r)) (hg : W.grownBy W' v.ownBlock) : OwnMs W' base v' (rows ++ [r]) := by
  have hrow : ∀ g, v.ownBlock = some g → ∃ cur fr, W.heap[g]? = some (.cells cur 78 fr) := fun g e => by
    obtain ⟨cur, hc⟩ := own_rowblk h.1 g e
    exact ⟨cur, _, hc⟩
  refine ⟨by rw [List.length_append, flat_append, flat_one]; exact hown, fun q hq => ?_⟩
  rcases List.mem_append.1 hq with hq | hq
  · exact rr_kept (h.2 q hq) hg hrow
  · rw [List.mem_singleton.1 hq]; exact rr_kept hr hg hrow
/-- one more row is appended: the run of it -/
theorem push_run (W0 : World) (base : Nat) (xa : Option Addr) (rl xc : Nat) (rows : List Mr) (r : Mr) (hms : OwnMs W0 base (.slice xa rl xc) rows) (hr : OwnRr W0 base r.2 r.1.refs) (hl : rl ≤ 1000000) (hb : base ≤ W0.heap.size) (o : List Value) (ho : o = mrC r) :
    ∃ ya yc w2, (Builtin.append_ #[58, 58] 58 #[.slice xa rl xc, .slice (some ⟨W0.heap.size, 0, none⟩) 1 1]).run Try.prog (W0.alloc (.cells o.toArray 78)) = .ok (.slice ya (rl + 1) yc) w2 ∧
      OwnMs w2 base (.slice ya (rl + 1) yc) (rows ++ [r]) ∧ (W0.alloc (.cells o.toArray 78)).grownBy w2 (Value.slice xa rl xc).ownBlock ∧ ∀ q, (Value.slice ya (rl + 1) yc).ownBlock = some q → (Value.slice xa rl xc).ownBlock = some q ∨ W0.heap.size ≤ q := by
  subst ho
  obtain ⟨i0, hi0, hz0, hz1, hz2⟩ := info_partsL mtInfo3
  have hal : Below W0.heap.size W0 (W0.alloc (.cells (mrC r).toArray 78)) := (Below.refl _ _).alloc (Nat.le_refl _) _
  have hms' := hms.below hal
  have hrl : rl = rows.length := by
    rcases hms.1.2 with ⟨e, h⟩ | ⟨g, cap, cur, e, -⟩
    · injection e with _ e _; rw [e, h]
    · injection e with _ e _
  obtain ⟨g, yc, w2, hrun, hown, hg, hlies, -⟩ := run_append_lies (P := Try.prog) (W0.alloc (.cells (mrC r).toArray 78)) 58 58 base 78 i0 (.agg #[.int .i64 0, .int .i64 0, .string ⟨#[]⟩, .int .i64 0, .int .i64 0, .string ⟨#[]⟩, .int .i64 0, .int .i64 0, .slice none 0 0]) 9 104 Try.underlying58 hi0 hz0 hz1 hz2 rfl (by decide)
    (.slice xa rl xc) rows.length (flat mrC rows) hms'.1 ⟨W0.heap.size, 0, none⟩ 1 1 (mrC r) rfl (newsL _ _ rfl _ _ rfl) (mrC_one hr) (by omega) (by unfold maxLen; omega) (by omega) (by simp; omega) _ rfl
  refine ⟨some ⟨g, 0, none⟩, yc, w2, by rw [hrl] at hrun ⊢; exact hrun, ?_, hg, ?_⟩
  · rw [hrl]
    exact hms'.push (own_below hr hal) hown hg
  · intro q hq
    cases hq
    rcases hlies with h | h
    · exact .inl h
    · right
      rw [h, World.size_alloc]
      exact Nat.le_succ _
theorem keeps_push {W W' : World} {base : Nat} {v : Value} {rows : List Mr} (h : OwnMs W base v rows) (hg : W.grownBy W' v.ownBlock) : KeepsOthers W W' :=
  KeepsOthers.of_grownBy hg (fun i ob hi ho => by
    obtain ⟨cur, hc⟩ := own_rowblk h.1 i hi
    rw [hc] at ho
    cases ho; rfl)
/-- what has become where a copy was appended to a row of a call's own -/
structure CopyOut (Y : World) (base : Nat) (x x' : Value) (w2 : World) (rows rows' : List Mr) : Prop where
  keeps : KeepsOthers Y w2
  low : ∀ (i : Nat) (ob : Obj), i < base → Y.heap[i]? = some ob → w2.heap[i]? = some ob
  bel : ∀ (B : Nat) (u : World), B ≤ base → Below B u Y → Below B u w2
  own : OwnMs w2 base x' rows'
  grown : ∃ W1, Below Y.heap.size Y W1 ∧ W1.grownBy w2 x.ownBlock
  lies : ∀ q, x'.ownBlock = some q → x.ownBlock = some q ∨ Y.heap.size ≤ q
/-- a copy is appended to a row that a variable holds: what a drawn region of it needs -/
theorem copy_push (Y : World) (base : Nat) (c : Addr) (xa : Option Addr) (rl xc : Nat) (rows : List Mr) (mz mn : Int) (a b : Ky) (refs : List (Int × Int)) (hc : c.block < base) (hb : base ≤ Y.heap.size) (hcell : Y.cell? c = some (.slice xa rl xc)) (hfz : Y.frozen? c = false) (hms : OwnMs Y base (.slice xa rl xc) rows) (hl : rl ≤ 1000000)
    (w1 : World) (va : Option Addr) (vc : Nat) (ho1 : OwnRr w1 Y.drew.heap.size (.slice va refs.length vc) refs) (hb1 : Below Y.drew.heap.size Y.drew w1) :
    w1.cell? c = some (.slice xa rl xc) ∧ ∃ (ya : Option Addr) (yc : Nat) (w2 : World), (Builtin.append_ #[58, 58] 58 #[.slice xa rl xc, .slice (some ⟨w1.heap.size, 0, none⟩) 1 1]).run Try.prog (w1.alloc (.cells #[.int .i64 mz, .int .i64 mn, .string a.u, .int .i64 a.s, .int .i64 a.k, .string b.u, .int .i64 b.s, .int .i64 b.k, .slice va refs.length vc] 78)) = .ok (.slice ya (rl + 1) yc) w2 ∧ w2.cell? c = some (.slice xa rl xc) ∧ w2.frozen? c = false ∧
      Hid (CopyOut Y base (.slice xa rl xc) (.slice ya (rl + 1) yc) w2 rows (rows ++ [(⟨mz, mn, a, b, refs⟩, .slice va refs.length vc)])) := by
  have hb1' : Below Y.heap.size Y w1 := (Below.refl Y.heap.size Y).drew.trans hb1
  have hms1 : OwnMs w1 base (.slice xa rl xc) rows := hms.below hb1'
  obtain ⟨ya, yc, w2, happ, hms2, hg2, hlies⟩ := push_run w1 base xa rl xc rows (⟨mz, mn, a, b, refs⟩, .slice va refs.length vc) hms1 (own_mono ho1 hb) hl (Nat.le_trans hb hb1'.size) [.int .i64 mz, .int .i64 mn, .string a.u, .int .i64 a.s, .int .i64 a.k, .string b.u, .int .i64 b.s, .int .i64 b.k, .slice va refs.length vc] rfl
  have hlow : ∀ g, (Value.slice xa rl xc).ownBlock = some g → base ≤ g := fun g e => (hms1.1.lt g e).1
  have hk2 : ∀ (i : Nat) (ob : Obj), i < base → Y.heap[i]? = some ob → w2.heap[i]? = some ob := fun i ob hi h => by
    have h1 := blk_old (blk_bels hb1' h) (.cells #[.int .i64 mz, .int .i64 mn, .string a.u, .int .i64 a.s, .int .i64 a.k, .string b.u, .int .i64 b.s, .int .i64 b.k, .slice va refs.length vc] 78)
    exact (hg2.block i (blk_lt h1) (fun e => by have := hlow i e.symm; omega)).trans h1
  have hsame : w2.heap[c.block]? = Y.heap[c.block]? := by
    have hlt : c.block < Y.heap.size := Nat.lt_of_lt_of_le hc hb
    rw [Array.getElem?_eq_getElem hlt]
    exact hk2 _ _ hc (Array.getElem?_eq_getElem hlt)
  refine ⟨(World.cell?_of_block (hb1'.block c.block (Nat.lt_of_lt_of_le hc hb))).trans hcell, ya, yc, w2, happ, (World.cell?_of_block hsame).trans hcell, (World.frozen?_of_block hsame).trans hfz, ((keeps_below' hb1').trans (KeepsOthers.alloc _ _)).trans (keeps_push (hms1.below ((Below.refl _ _).alloc (Nat.le_refl _) _)) hg2), hk2, ?_, hms2, ⟨_, hb1'.alloc hb1'.size _, hg2⟩, fun q hq => ?_⟩
  · intro B u hB hbu
    exact ((hbu.trans (hb1'.mono (Nat.le_trans hB hb))).alloc (Nat.le_trans hB (Nat.le_trans hb hb1'.size)) _).grown hg2 (Nat.le_trans hB (Nat.le_trans hb (Nat.le_trans hb1'.size (by simp)))) (fun g e => by have := hlow g e; omega)
  · rcases hlies q hq with h | h
    · exact .inl h
    · exact .inr (Nat.le_trans hb1'.size h)
/-! ### Tables -/
def TabI (w : World) (base : Nat) (V : Vn) (k : Nat) (W : World) : Prop :=
  W.heap[w.heap.size]? = some (.cells V.cells 61 (0, 0)) ∧ (∃ x rows, W.heap[w.heap.size + 1]? = some (.cells #[x] 58 (0, 0)) ∧ OwnMs W base x rows ∧ rows.map (·.1) = ((tabs V.l 4).take k).map (·.2.1)) ∧
  W.heap[w.heap.size + 1 + 1]? = some (.cells #[.pointer (some ⟨w.heap.size, 0, none⟩)] 140 (0, 0)) ∧ Below w.heap.size w W
theorem tabI_own {w : World} {base : Nat} {V : Vn} {B : Nat} (hB : w.heap.size ≤ B) : OwnFrom B (TabI w base V) :=
  st_and (st_blk _ _ _ _) (st_and (st_ex fun x => st_ex fun rows => st_and (st_blk _ _ _ _) (st_and (st_ms _ _ _) (st_pure _))) (st_and (st_blk _ _ _ _) (st_below (Nat.le_refl _) hB)))
attribute [local go_sem] Oper.semAt_some
set_option maxHeartbeats 3200000 in
theorem tables_any (V : Vn) (w : World) (h : IsVn w V) (hl : (tabs V.l 4).length ≤ 100000) (hrl : ∀ p ∈ tabs V.l 4, p.2.1.refs.length ≤ 1000000) :
    Calls Try.prog 28 #[.agg V.cells] w fun e w' => ∃ x rows, e = .returned x ∧ OwnMs w' w.heap.size x rows ∧ rows.map (·.1) = (tabs V.l 4).map (·.2.1) ∧ Below w.heap.size w w' := by
  have H := Lib.hid h
  have Hl := Lib.hid hrl
  clear h hrl
  unfold Vn.cells
  obtain ⟨i0, hi0, hz0, hz1, hz2⟩ := info_partsL mtInfo3
  have Hi0 := Lib.hid hi0
  have Hz0 := Lib.hid hz0
  have Hz1 := Lib.hid hz1
  have Hz2 := Lib.hid hz2
  clear hi0 hz0 hz1 hz2
  refine calls_of_marks Try.func28 rfl ?_
  simp only [Try.ntmps28, List.size_toArray, List.length_cons, List.length_nil, Nat.reduceAdd, Nat.reduceSub, Array.replicate_succ, Array.replicate_zero, List.push_toArray, List.append_toArray, List.nil_append, List.cons_append]
  go_wp2_with fail
  refine (all_any _ _).mono ?_
  rintro e w' ⟨rfl, rfl⟩
  go_wp2_with fail
  generalize hW : ((w.alloc (.cells #[V.v 0, V.v 1, V.v 2, V.v 3] 61)).alloc (.cells #[.slice none 0 0] 58)).alloc (.cells #[.pointer (some ⟨w.heap.size, 0, none⟩)] 140) = W
  have hWs : W.heap.size = w.heap.size + 1 + 1 + 1 := by rw [← hW]; simp only [World.size_alloc]
  have hI : TabI w W.heap.size V 0 W := by
    rw [← hW]
    exact ⟨blk_old (blk_old (blk_new rfl _) _) _, ⟨_, [], blk_old (blk_new (by simp only [World.size_alloc]) _) _, OwnMs.nil _ _, rfl⟩, blk_new (by simp only [World.size_alloc]) _,
      (((Below.refl _ _).alloc (Nat.le_refl _) _).alloc (by simp) _).alloc (by simp; omega) _⟩
  clear hW
  have HWs := Lib.hid hWs
  clear hWs
  refine range_lawS (gf := 83) (lb := #[.pointer (some ⟨w.heap.size + 1 + 1, 0, none⟩)]) rfl (enters_of Try.func83 (by kernel_rfl) rfl)
    (all_iter (w.heap.size + 1 + 1) w.heap.size V w H.out) (tabEnc_size V.l) (TabI w W.heap.size V) (fun _ _ _ => False) (fun k X hX => ⟨hX.2.2.1, hX.1, hX.2.2.2⟩) (tabI_own (by rw [HWs.out]; omega)) (fun c k X Y row h _ _ => h) hI ?round ?done ?stop
  case round =>
    rintro yl k X hk hXs ⟨h0, h1, h2, h5⟩
    obtain ⟨p, hp⟩ : ∃ p, (tabs V.l 4)[k]? = some p := ⟨_, List.getElem?_eq_getElem hk⟩
    rw [tabEnc_at V.l hp]
    have hrr := tabs_rr H.out hp
    have hpl := Hl.out p (List.mem_of_getElem? hp)
    have htk : (tabs V.l 4).take (k + 1) = (tabs V.l 4).take k ++ [p] := by rw [List.take_add_one, hp]; rfl
    obtain ⟨n, ⟨⟨mz, mn, a, b, refs⟩, vr⟩⟩ := p
    dsimp only at hrr hpl
    obtain ⟨ra, rc, hrv, -, -, -⟩ := id hrr
    subst hrv
    have Hrr := Lib.hid hrr
    have Htk := Lib.hid htk
    have H0 := Lib.hid h0
    have H1 := Lib.hid h1
    have H2 := Lib.hid h2
    have H5 := Lib.hid h5
    clear hp h0 h1 h2 h5 hrr htk
    obtain ⟨rn, hrn⟩ : ∃ rn, rn = refs.length := ⟨_, rfl⟩
    rw [← hrn] at Hrr Htk ⊢
    have Hrn := Lib.hid hrn
    clear hrn
    unfold mrC
    dsimp only
    gi_wp2
    refine ⟨keeps_of ((Below.refl _ _).alloc (Nat.le_refl _) _), ?_⟩
    intro Y hY
    have hI2 : TabI w W.heap.size V k Y := st_turn (tabI_own (by rw [HWs.out]; omega)) hY (by
      obtain ⟨x, rows, q1, q2, q3⟩ := H1.out
      exact ⟨blk_old H0.out _, ⟨x, rows, blk_old q1 _, q2.below ((Below.refl _ _).alloc (Nat.le_refl _) _), q3⟩, blk_old H2.out _, H5.out.alloc H5.out.size _⟩)
    have hm := blk_turn hY (blk_new rfl (.cells #[.int .i64 mz, .int .i64 mn, .string a.u, .int .i64 a.s, .int .i64 a.k, .string b.u, .int .i64 b.s, .int .i64 b.k, .slice ra rn rc] 78))
    have m0 := fun D => (cell_of_blk (w := Y.drew) (show Y.drew.heap[X.heap.size]? = _ from hm) 0).trans (show _ = some (.int .i64 mz) from D)
    have M0 := (cell_of_blk (w := Y.drew) hm 0).trans (show _ = some (.int .i64 mz) from rfl)
    have M1 := (cell_of_blk (w := Y.drew) hm 1).trans (show _ = some (.int .i64 mn) from rfl)
    have M2 := (cell_of_blk (w := Y.drew) hm 2).trans (show _ = some (.string a.u) from rfl)
    have M3 := (cell_of_blk (w := Y.drew) hm 3).trans (show _ = some (.int .i64 a.s) from rfl)
    have M4 := (cell_of_blk (w := Y.drew) hm 4).trans (show _ = some (.int .i64 a.k) from rfl)
    have M5 := (cell_of_blk (w := Y.drew) hm 5).trans (show _ = some (.string b.u) from rfl)
    have M6 := (cell_of_blk (w := Y.drew) hm 6).trans (show _ = some (.int .i64 b.s) from rfl)
    have M7 := (cell_of_blk (w := Y.drew) hm 7).trans (show _ = some (.int .i64 b.k) from rfl)
    have M8 := (cell_of_blk (w := Y.drew) hm 8).trans (show _ = some (.slice ra rn rc) from rfl)
    clear m0
    obtain ⟨h0, ⟨x, rows, h1, hms, hrows⟩, h2, h5⟩ := hI2
    have hmc := callsIn_wide (n := 0).2 (mcopied_any mz mn a b (.slice ra rn rc) refs Y.drew (Hrr.out.below (h5.drew)) hpl)
    have hrl : rows.length ≤ k := by
      have := congrArg List.length hrows
      rw [List.length_map, List.length_map, List.length_take] at this
      omega
    obtain ⟨xa, xc, rfl⟩ := own_slice hms.1
    obtain ⟨rl, hrlE⟩ : ∃ rl, rl = rows.length := ⟨_, rfl⟩
    have hown := hms.1
    rw [← hrlE] at hrl hown h1 hms
    have cx : Y.drew.cell? ⟨w.heap.size + 1, 0, none⟩ = some (.slice xa rl xc) := (cell_of_blk (w := Y.drew) h1 0).trans rfl
    have Hmc := Lib.hid hmc
    have Hms := Lib.hid hms
    have Hown := Lib.hid hown
    have HrlE := Lib.hid hrlE
    have Hrows := Lib.hid hrows
    clear H0 H1 H2 H5
    have H0 := Lib.hid h0
    have H1 := Lib.hid h1
    have H2 := Lib.hid h2
    have H5 := Lib.hid h5
    have hkl : k ≤ 100000 := by omega
    have hlt1 : w.heap.size + 1 < Y.heap.size := blk_lt h1
    have hYW : W.heap.size ≤ Y.heap.size := Nat.le_trans hXs (Nat.le_trans (by simp) hY.size)
    clear h0 h1 h2 h5 hmc hms hown hrlE hrows hm hY
    gi_wp2_with fail
    have hpush : ∀ (w1 : World) (va : Option Addr) (vc : Nat), OwnRr w1 Y.drew.heap.size (.slice va refs.length vc) refs → Below Y.drew.heap.size Y.drew w1 → w1.cell? ⟨w.heap.size + 1, 0, none⟩ = some (.slice xa rl xc) ∧ ∃ (ya : Option Addr) (yc : Nat) (w2 : World), (Builtin.append_ #[58, 58] 58 #[.slice xa rl xc, .slice (some ⟨w1.heap.size, 0, none⟩) 1 1]).run Try.prog (w1.alloc (.cells #[.int .i64 mz, .int .i64 mn, .string a.u, .int .i64 a.s, .int .i64 a.k, .string b.u, .int .i64 b.s, .int .i64 b.k, .slice va refs.length vc] 78)) = .ok (.slice ya (rl + 1) yc) w2 ∧ w2.cell? ⟨w.heap.size + 1, 0, none⟩ = some (.slice xa rl xc) ∧ w2.frozen? ⟨w.heap.size + 1, 0, none⟩ = false ∧
        Hid (KeepsOthers Y w2 ∧ w2.heap[w.heap.size]? = some (.cells V.cells 61 (0, 0)) ∧ w2.heap[w.heap.size + 1]? = some (.cells #[.slice xa rl xc] 58 (0, 0)) ∧ w2.heap[w.heap.size + 1 + 1]? = some (.cells #[.pointer (some ⟨w.heap.size, 0, none⟩)] 140 (0, 0)) ∧ Below w.heap.size w w2 ∧ OwnMs w2 W.heap.size (.slice ya (rl + 1) yc) (rows ++ [(⟨mz, mn, a, b, refs⟩, .slice va refs.length vc)])) := by
      intro w1 va vc ho1 hb1
      have hb1' : Below Y.heap.size Y w1 := (Below.refl Y.heap.size Y).drew.trans hb1
      have hms1 : OwnMs w1 W.heap.size (.slice xa rl xc) rows := Hms.out.below hb1'
      obtain ⟨ya, yc, w2, happ, hms2, hg2, -⟩ := push_run w1 W.heap.size xa rl xc rows (⟨mz, mn, a, b, refs⟩, .slice va refs.length vc) hms1 (own_mono ho1 hYW) (by omega) (Nat.le_trans hYW hb1'.size) [.int .i64 mz, .int .i64 mn, .string a.u, .int .i64 a.s, .int .i64 a.k, .string b.u, .int .i64 b.s, .int .i64 b.k, .slice va refs.length vc] rfl
      have hlow : ∀ g, (Value.slice xa rl xc).ownBlock = some g → W.heap.size ≤ g := fun g e => (hms1.1.lt g e).1
      have hk2 : ∀ {i : Nat} {ob : Obj}, i < W.heap.size → Y.heap[i]? = some ob → w2.heap[i]? = some ob := fun {i ob} hi h => by
        have h1 := blk_old (blk_bels hb1' h) (.cells #[.int .i64 mz, .int .i64 mn, .string a.u, .int .i64 a.s, .int .i64 a.k, .string b.u, .int .i64 b.s, .int .i64 b.k, .slice va refs.length vc] 78)
        exact (hg2.block i (blk_lt h1) (fun e => by have := hlow i e.symm; omega)).trans h1
      have hs := HWs.out
      have k1 := hk2 (by omega) H1.out
      have hbel : Below w.heap.size w w2 := ((H5.out.trans (hb1'.mono H5.out.size)).alloc (Nat.le_trans H5.out.size hb1'.size) _).grown hg2 (Nat.le_trans H5.out.size (Nat.le_trans hb1'.size (by simp))) (fun g e => by have := hlow g e; omega)
      exact ⟨grow_cell hb1' hlt1 cx, ya, yc, w2, happ, (cell_of_blk k1 0).trans rfl, frozen_of_blk k1 0, ((keeps_below' hb1').trans (KeepsOthers.alloc _ _)).trans (keeps_push (hms1.below ((Below.refl _ _).alloc (Nat.le_refl _) _)) hg2), hk2 (by omega) H0.out, k1, hk2 (by omega) H2.out, hbel, hms2⟩
    have Hpush := Lib.hid hpush
    clear hpush
    have hmc' := Lib.hid (callsIn_wide.1 Hmc.out)
    have hfin : ∀ (w2 : World) (ya : Option Addr) (yc : Nat) (va : Option Addr) (vc : Nat), Hid (KeepsOthers Y w2 ∧ w2.heap[w.heap.size]? = some (.cells V.cells 61 (0, 0)) ∧ w2.heap[w.heap.size + 1]? = some (.cells #[.slice xa rl xc] 58 (0, 0)) ∧ w2.heap[w.heap.size + 1 + 1]? = some (.cells #[.pointer (some ⟨w.heap.size, 0, none⟩)] 140 (0, 0)) ∧ Below w.heap.size w w2 ∧ OwnMs w2 W.heap.size (.slice ya (rl + 1) yc) (rows ++ [(⟨mz, mn, a, b, refs⟩, .slice va refs.length vc)])) →
        KeepsFrom W.heap.size Y (w2.setCell ⟨w.heap.size + 1, 0, none⟩ (.slice ya (rl + 1) yc)) ∧ TabI w W.heap.size V (k + 1) (w2.setCell ⟨w.heap.size + 1, 0, none⟩ (.slice ya (rl + 1) yc)) := by
      rintro w2 ya yc va vc ⟨hk2, q0, q1, q2, q5, qm⟩
      have hs := HWs.out
      refine ⟨(hk2.trans (KeepsOthers.setCell _ _ _)).from _, (Below.heap_setCell _ _ _ _ (by simp)).trans q0, ⟨_, _, (blk_set q1).trans rfl, qm.far (grown_set _ _ _ _) (fun r e => by cases e; omega), ?_⟩, (Below.heap_setCell _ _ _ _ (by simp)).trans q2, q5.setCell (by simp) _⟩
      rw [List.map_append, Hrows.out, Htk.out, List.map_append]; rfl
    have Hfin := Lib.hid hfin
    clear hfin
    refine round_held (S := fun _ => True) (by kernel_rfl) (by kernel_rfl) ?hlo trivial (fun _ => ?_)
    case hlo => rintro ⟨a, w, h⟩; exact h
    refine wpAnyH_ready (rs := [0, 1]) (by kernel_rfl) (by simp) (AllReadyH.cons rfl (fun K hK => ?_) (AllReadyH.cons rfl (fun K hK => ?_) AllReadyH.nil))
    · go_simp
      refine hK.out _ _ trivial (fun _ => ?_)
      clear hK K
      try simp only [Act.put, List.setIfInBounds_toArray, List.set_cons_zero, List.set_cons_succ]
      refine wpAnyH_ready (rs := [1]) (by kernel_rfl) (by simp) (AllReadyH.cons rfl (fun K hK => ?_) AllReadyH.nil)
      go_simp
      refine hK.out _ _ trivial (fun _ => ?_)
      clear hK K
      try simp only [Act.put, List.setIfInBounds_toArray, List.set_cons_zero, List.set_cons_succ]
      refine wpAnyH_ready (rs := [2]) (by kernel_rfl) (by simp) (AllReadyH.cons rfl (fun K hK => ?_) AllReadyH.nil)
      go_simp
      refine hmc'.out.mono ?_
      rintro e w1 ⟨v', rfl, ho1, hb1⟩
      obtain ⟨va, vc, rfl⟩ := own_slice ho1
      obtain ⟨cx1, ya, yc, w2, happ, cx2, cz2, HP⟩ := Hpush.out w1 va vc ho1 hb1
      have cx1a := fun o => grow_alloc cx1 o
      clear ho1 hb1
      refine hK.out _ _ trivial (fun _ => ?_)
      clear hK K
      try simp only [Act.put, List.setIfInBounds_toArray, List.set_cons_zero, List.set_cons_succ]
      refine wpAnyH_ready (rs := [3]) (by kernel_rfl) (by simp) (AllReadyH.cons rfl (fun K hK => ?_) AllReadyH.nil)
      go_simp
      refine hK.out _ _ trivial (fun _ => ?_)
      clear hK K
      try simp only [Act.put, List.setIfInBounds_toArray, List.set_cons_zero, List.set_cons_succ]
      refine wpAnyH_ready (rs := [4]) (by kernel_rfl) (by simp) (AllReadyH.cons rfl (fun K hK => ?_) AllReadyH.nil)
      rw [if_pos (by rfl)]
      refine wp_append_run (.tmp 9) (.tmp 12) 58 rfl _ _ _ _ rfl rfl happ (hK.out _ _ trivial (fun _ => ?_))
      clear hK K
      try simp only [Act.put, List.setIfInBounds_toArray, List.set_cons_zero, List.set_cons_succ]
      refine wpAnyH_ready (rs := [5]) (by kernel_rfl) (by simp) (AllReadyH.cons rfl (fun K hK => ?_) AllReadyH.nil)
      go_simp
      refine hK.out _ _ trivial (fun _ => ?_)
      clear hK K
      try simp only [Act.put, List.setIfInBounds_toArray, List.set_cons_zero, List.set_cons_succ]
      refine wpAnyH_done (by kernel_rfl) ?_ _
      exact Hfin.out w2 ya yc va vc HP
    · go_simp
      refine hK.out _ _ trivial (fun _ => ?_)
      clear hK K
      try simp only [Act.put, List.setIfInBounds_toArray, List.set_cons_zero, List.set_cons_succ]
      refine wpAnyH_ready (rs := [0, 2]) (by kernel_rfl) (by simp) (AllReadyH.cons rfl (fun K hK => ?_) (AllReadyH.cons rfl (fun K hK => ?_) AllReadyH.nil))
      · go_simp
        refine hK.out _ _ trivial (fun _ => ?_)
        clear hK K
        try simp only [Act.put, List.setIfInBounds_toArray, List.set_cons_zero, List.set_cons_succ]
        refine wpAnyH_ready (rs := [2]) (by kernel_rfl) (by simp) (AllReadyH.cons rfl (fun K hK => ?_) AllReadyH.nil)
        go_simp
        refine hmc'.out.mono ?_
        rintro e w1 ⟨v', rfl, ho1, hb1⟩
        obtain ⟨va, vc, rfl⟩ := own_slice ho1
        obtain ⟨cx1, ya, yc, w2, happ, cx2, cz2, HP⟩ := Hpush.out w1 va vc ho1 hb1
        have cx1a := fun o => grow_alloc cx1 o
        clear ho1 hb1
        refine hK.out _ _ trivial (fun _ => ?_)
        clear hK K
        try simp only [Act.put, List.setIfInBounds_toArray, List.set_cons_zero, List.set_cons_succ]
        refine wpAnyH_ready (rs := [3]) (by kernel_rfl) (by simp) (AllReadyH.cons rfl (fun K hK => ?_) AllReadyH.nil)
        go_simp
        refine hK.out _ _ trivial (fun _ => ?_)
        clear hK K
        try simp only [Act.put, List.setIfInBounds_toArray, List.set_cons_zero, List.set_cons_succ]
        refine wpAnyH_ready (rs := [4]) (by kernel_rfl) (by simp) (AllReadyH.cons rfl (fun K hK => ?_) AllReadyH.nil)
        rw [if_pos (by rfl)]
        refine wp_append_run (.tmp 9) (.tmp 12) 58 rfl _ _ _ _ rfl rfl happ (hK.out _ _ trivial (fun _ => ?_))
        clear hK K
        try simp only [Act.put, List.setIfInBounds_toArray, List.set_cons_zero, List.set_cons_succ]
        refine wpAnyH_ready (rs := [5]) (by kernel_rfl) (by simp) (AllReadyH.cons rfl (fun K hK => ?_) AllReadyH.nil)
        go_simp
        refine hK.out _ _ trivial (fun _ => ?_)
        clear hK K
        try simp only [Act.put, List.setIfInBounds_toArray, List.set_cons_zero, List.set_cons_succ]
        refine wpAnyH_done (by kernel_rfl) ?_ _
        exact Hfin.out w2 ya yc va vc HP
      · go_simp
        refine hmc'.out.mono ?_
        rintro e w1 ⟨v', rfl, ho1, hb1⟩
        obtain ⟨va, vc, rfl⟩ := own_slice ho1
        obtain ⟨cx1, ya, yc, w2, happ, cx2, cz2, HP⟩ := Hpush.out w1 va vc ho1 hb1
        have cx1a := fun o => grow_alloc cx1 o
        clear ho1 hb1
        refine hK.out _ _ trivial (fun _ => ?_)
        clear hK K
        try simp only [Act.put, List.setIfInBounds_toArray, List.set_cons_zero, List.set_cons_succ]
        refine wpAnyH_ready (rs := [0, 3]) (by kernel_rfl) (by simp) (AllReadyH.cons rfl (fun K hK => ?_) (AllReadyH.cons rfl (fun K hK => ?_) AllReadyH.nil))
        · go_simp
          refine hK.out _ _ trivial (fun _ => ?_)
          clear hK K
          try simp only [Act.put, List.setIfInBounds_toArray, List.set_cons_zero, List.set_cons_succ]
          refine wpAnyH_ready (rs := [3]) (by kernel_rfl) (by simp) (AllReadyH.cons rfl (fun K hK => ?_) AllReadyH.nil)
          go_simp
          refine hK.out _ _ trivial (fun _ => ?_)
          clear hK K
          try simp only [Act.put, List.setIfInBounds_toArray, List.set_cons_zero, List.set_cons_succ]
          refine wpAnyH_ready (rs := [4]) (by kernel_rfl) (by simp) (AllReadyH.cons rfl (fun K hK => ?_) AllReadyH.nil)
          rw [if_pos (by rfl)]
          refine wp_append_run (.tmp 9) (.tmp 12) 58 rfl _ _ _ _ rfl rfl happ (hK.out _ _ trivial (fun _ => ?_))
          clear hK K
          try simp only [Act.put, List.setIfInBounds_toArray, List.set_cons_zero, List.set_cons_succ]
          refine wpAnyH_ready (rs := [5]) (by kernel_rfl) (by simp) (AllReadyH.cons rfl (fun K hK => ?_) AllReadyH.nil)
          go_simp
          refine hK.out _ _ trivial (fun _ => ?_)
          clear hK K
          try simp only [Act.put, List.setIfInBounds_toArray, List.set_cons_zero, List.set_cons_succ]
          refine wpAnyH_done (by kernel_rfl) ?_ _
          exact Hfin.out w2 ya yc va vc HP
        · go_simp
          refine hK.out _ _ trivial (fun _ => ?_)
          clear hK K
          try simp only [Act.put, List.setIfInBounds_toArray, List.set_cons_zero, List.set_cons_succ]
          refine wpAnyH_ready (rs := [0]) (by kernel_rfl) (by simp) (AllReadyH.cons rfl (fun K hK => ?_) AllReadyH.nil)
          go_simp
          refine hK.out _ _ trivial (fun _ => ?_)
          clear hK K
          try simp only [Act.put, List.setIfInBounds_toArray, List.set_cons_zero, List.set_cons_succ]
          refine wpAnyH_ready (rs := [4]) (by kernel_rfl) (by simp) (AllReadyH.cons rfl (fun K hK => ?_) AllReadyH.nil)
          rw [if_pos (by rfl)]
          refine wp_append_run (.tmp 9) (.tmp 12) 58 rfl _ _ _ _ rfl rfl happ (hK.out _ _ trivial (fun _ => ?_))
          clear hK K
          try simp only [Act.put, List.setIfInBounds_toArray, List.set_cons_zero, List.set_cons_succ]
          refine wpAnyH_ready (rs := [5]) (by kernel_rfl) (by simp) (AllReadyH.cons rfl (fun K hK => ?_) AllReadyH.nil)
          go_simp
          refine hK.out _ _ trivial (fun _ => ?_)
          clear hK K
          try simp only [Act.put, List.setIfInBounds_toArray, List.set_cons_zero, List.set_cons_succ]
          refine wpAnyH_done (by kernel_rfl) ?_ _
          exact Hfin.out w2 ya yc va vc HP
  case done =>
    rintro D X hD hXs ⟨h0, ⟨x, rows, h1, hms, hrows⟩, h2, h5⟩ hK
    have hturn : BookTurn W.heap.size X (X.putObj D (.deferred none)) := ⟨some D, grownBy_putObj _ _ _, fun r e => by cases e; exact ⟨hD, _, hK, rfl⟩⟩
    have hms2 : OwnMs (X.putObj D (.deferred none)) W.heap.size x rows := st_turn (I := fun (_ : Unit) Z => OwnMs Z W.heap.size x rows) (s := ()) (st_ms _ _ _) hturn hms
    have hb2 : Below w.heap.size w (X.putObj D (.deferred none)) := below_put h5 _ (by rw [HWs.out] at hD; omega) h5.size
    have c1 : X.cell? ⟨w.heap.size + 1, 0, none⟩ = some x := (cell_of_blk h1 0).trans rfl
    have Hms2 := Lib.hid (hms2.mono (b2 := w.heap.size) (by rw [HWs.out]; omega))
    have Hb2 := Lib.hid hb2
    have Hrows := Lib.hid hrows
    have HK := Lib.hid hK
    clear h0 h1 hms hrows h2 h5 hK hturn hms2 hb2
    go_wp2
    refine leave_mark HK.out (v := x) ?_ ⟨x, rows, rfl, Hms2.out, ?_, Hb2.out⟩
    · simp [results, Try.results28, go_sem]
    · rw [Hrows.out, List.take_length]
  case stop => exact fun D c k X _ _ _ h _ => h.elim
end Go.Proofs.Ythjjelomlgmllaa.Tithe
