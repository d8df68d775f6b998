/- Version.Check: walked. -/
import Derived.Test.YthjjelomlgmllaaLevVer
import Derived.Deep.WholeRow
namespace Go.Proofs.Ythjjelomlgmllaa.Tithe
open Go.RowKit Go.Sort Go.Shelf
set_option linter.unusedVariables false
set_option linter.unusedSimpArgs false
set_option maxRecDepth 100000
def mOk (m : Mt) : Bool := metaOk m.z m.n m.a m.b m.refs
theorem mOk_zone {m : Mt} (h : mOk m = true) : 0 ≤ m.z ∧ m.z < 64 := by
  unfold mOk metaOk headOk zoneOk at h
  simp only [Bool.and_eq_true, decide_eq_true_eq] at h
  omega
def bArr (f : Nat → Bool) : Array Value := ((List.range 64).map fun z => Value.bool (f z)).toArray
theorem bArr_get (f : Nat → Bool) {z : Nat} (h : z < 64) : (bArr f)[z]? = some (.bool (f z)) := by
  unfold bArr; simp [h]
theorem bArr_set (f : Nat → Bool) {z : Nat} (h : z < 64) : (bArr f).setIfInBounds z (.bool true) = bArr (fun y => if y = z then true else f y) := by
  apply Array.ext_getElem?
  intro i
  rw [Array.getElem?_setIfInBounds]
  unfold bArr
  by_cases hi : z = i
  · subst hi; simp [h]
  · rw [if_neg hi]
    by_cases h2 : i < 64
    · simp [h2]
      intro e; exact absurd e.symm hi
    · rw [Array.getElem?_eq_none (by simp; omega), Array.getElem?_eq_none (by simp; omega)]
/-- is a zone among the first tables? -/
def seenZ (ts : List (Nat × Mr)) : Nat → Nat → Bool
  | 0, _ => false
  | k + 1, z => if z = (ts.getD k (0, Mr.nil)).2.1.z.toNat then true else seenZ ts k z
def tabOk (ts : List (Nat × Mr)) (k : Nat) : Bool := mOk (ts.getD k (0, Mr.nil)).2.1 && !seenZ ts k (ts.getD k (0, Mr.nil)).2.1.z.toNat
def tabsOk (ts : List (Nat × Mr)) : Nat → Bool
  | 0 => true
  | k + 1 => tabsOk ts k && tabOk ts k
def sepAt (l : List Mr) (k : Nat) : Bool := decide (k = 0) || decide (cmpB (l.getD (k - 1) Mr.nil).1.b.u (l.getD k Mr.nil).1.a.u < 0)
def sepOk (l : List Mr) : Nat → Bool
  | 0 => true
  | k + 1 => sepOk l k && sepAt l k
def verOk (l : Nat → List Mr) : Bool := tabsOk (tabs l 4) (tabs l 4).length && (sepOk (l 1) (l 1).length && (sepOk (l 2) (l 2).length && sepOk (l 3) (l 3).length))
def chkV (ok : Bool) : Int := if ok then 0 else 150
theorem tabsOk_false {ts : List (Nat × Mr)} {k : Nat} (h : tabOk ts k = false) : ∀ n, k < n → tabsOk ts n = false
  | 0, hn => by omega
  | n + 1, hn => by
    show (tabsOk ts n && tabOk ts n) = false
    by_cases e : k = n
    · subst e; rw [h, Bool.and_false]
    · rw [tabsOk_false h n (by omega)]; rfl
theorem sepOk_false {l : List Mr} {k : Nat} (h : sepAt l k = false) : ∀ n, k < n → sepOk l n = false
  | 0, hn => by omega
  | n + 1, hn => by
    show (sepOk l n && sepAt l n) = false
    by_cases e : k = n
    · subst e; rw [h, Bool.and_false]
    · rw [sepOk_false h n (by omega)]; rfl
def ChkI (w : World) (V : Vn) (k : Nat) (W : World) : Prop :=
  W.heap[w.heap.size]? = some (.cells V.cells 61 (0, 0)) ∧ W.heap[w.heap.size + 1]? = some (.cells #[.int .i64 0] 35 (0, 0)) ∧ W.heap[w.heap.size + 1 + 1]? = some (.cells (bArr (seenZ (tabs V.l 4) k)) 99 (0, 0)) ∧
  W.heap[w.heap.size + 1 + 1 + 1]? = some (.cells #[.pointer (some ⟨w.heap.size, 0, none⟩)] 140 (0, 0)) ∧ Below w.heap.size w W ∧ tabsOk (tabs V.l 4) k = true
theorem chkI_own {w : World} {V : Vn} {B : Nat} (hB : w.heap.size ≤ B) : OwnFrom B (ChkI w V) :=
  st_and (st_blk _ _ _ _) (st_and (st_blk _ _ _ _) (st_and (st_blk _ (fun k => bArr (seenZ (tabs V.l 4) k)) _ _) (st_and (st_blk _ _ _ _) (st_and (st_below (Nat.le_refl _) hB) (st_pure _)))))
def ChkX (w : World) (V : Vn) (c : Code) (k : Nat) (W : World) : Prop :=
  c = .ret ∧ verOk V.l = false ∧ W.heap[w.heap.size + 1]? = some (.cells #[.int .i64 150] 35 (0, 0)) ∧ Below w.heap.size w W
theorem chkX_own {w : World} {V : Vn} {B : Nat} (hB : w.heap.size ≤ B) (c : Code) : OwnFrom B (ChkX w V c) :=
  st_and (st_pure _) (st_and (st_pure _) (st_and (st_blk _ _ _ _) (st_below (Nat.le_refl _) hB)))
theorem wp_store_new {P : Program} {op : Oper} {a : Act} {w : World} {K : Act → World → Prop} {Q : Exit → Act → World → Prop} (ty : TypeId) (x y : Operand) (ho : op.op = .store ty x y)
    (W : World) (c c' : Array Value) (hw : w = W.alloc (.cells c ty)) (hx : a.eval x = .pointer (some ⟨W.heap.size, 0, none⟩)) (hy : a.eval y = .agg c')
    (hi : (P.info? ty).map (·.size) = some c'.size) (hs : c.size = c'.size) (h1 : c'.all (·.oneCell') = true)
    (h : K (a.put op.dst undef) (W.alloc (.cells c' ty))) : Oper.wp P op a w K Q := by
  subst hw
  have hrun := run_storeAt_new (P := P) W ty c c' hi hs h1
  unfold Oper.wp
  simp only [execOp, ho, hx, hy]
  simp [hrun, Result.andThen]
  exact h
theorem wpList_store_new {P : Program} {ops : Array Oper} {rest : List Oper} {op : Oper} {a : Act} {w : World} {Q : Exit → Act → World → Prop} (hgd : op.guard = none) (ty : TypeId) (x y : Operand) (ho : op.op = .store ty x y)
    (W : World) (c c' : Array Value) (hw : w = W.alloc (.cells c ty)) (hx : a.eval x = .pointer (some ⟨W.heap.size, 0, none⟩)) (hy : a.eval y = .agg c')
    (hi : (P.info? ty).map (·.size) = some c'.size) (hs : c.size = c'.size) (h1 : c'.all (·.oneCell') = true)
    (h : wpList P ops Q rest (a.put op.dst undef) (W.alloc (.cells c' ty))) : wpList P ops Q (op :: rest) a w :=
  wpList_plain hgd fun _ hK => wp_store_new ty x y ho W c c' hw hx hy hi hs h1 (hK _ _ h)
def zB : Array Value := bArr fun _ => false
theorem zB_eq : zB = #[.bool false, .bool false, .bool false, .bool false, .bool false, .bool false, .bool false, .bool false, .bool false, .bool false, .bool false, .bool false, .bool false, .bool false, .bool false, .bool false, .bool false, .bool false, .bool false, .bool false, .bool false, .bool false, .bool false, .bool false, .bool false, .bool false, .bool false, .bool false, .bool false, .bool false, .bool false, .bool false, .bool false, .bool false, .bool false, .bool false, .bool false, .bool false, .bool false, .bool false, .bool false, .bool false, .bool false, .bool false, .bool false, .bool false, .bool false, .bool false, .bool false, .bool false, .bool false, .bool false, .bool false, .bool false, .bool false, .bool false, .bool false, .bool false, .bool false, .bool false, .bool false, .bool false, .bool false, .bool false] := by rfl
theorem baInfo : (Try.prog.info? 99).map (·.size) = some 64 := by kernel_rfl
theorem zB_build (w : World) : (Instr.build 99 #[]).run Try.prog w = .ok (.agg zB) w := by kernel_rfl
theorem zB_alloc (w : World) : (Instr.alloc 99 true (.tuple #[])).run Try.prog w = .ok (.pointer (some ⟨w.heap.size, 0, none⟩)) (w.alloc (.cells zB 99)) := by kernel_rfl
theorem wpList_value {P : Program} {ops : Array Oper} {rest : List Oper} {op : Oper} {a : Act} {w : World} {Q : Exit → Act → World → Prop} (hgd : op.guard = none) (v : Value) (w' : World)
    (hrun : (execOp a.eval op).run P w = .ok (.value v) w') (h : wpList P ops Q rest (a.put op.dst v) w') : wpList P ops Q (op :: rest) a w :=
  wpList_plain hgd fun K hK => by
    unfold Oper.wp
    simp only [hrun]
    exact hK _ _ h
theorem run_build_op {P : Program} {a : Act} {w : World} {op : Oper} (t : TypeId) (v : Value) (ho : op.op = .build t #[]) (h : (Instr.build t #[]).run P w = .ok v w) : (execOp a.eval op).run P w = .ok (.value v) w := by
  unfold execOp
  simp [ho, h, Result.andThen]
theorem run_alloc_op {P : Program} {a : Act} {w w' : World} {op : Oper} (t : TypeId) (v : Value) (ho : op.op = .alloc t) (h : (Instr.alloc t true (.tuple #[])).run P w = .ok v w') : (execOp a.eval op).run P w = .ok (.value v) w' := by
  unfold execOp
  simp [ho, h, Result.andThen]
theorem zB_size : zB.size = 64 := by unfold zB bArr; simp
theorem zB_info : (Try.prog.info? 99).map (·.size) = some zB.size := by rw [zB_size]; exact baInfo
theorem zB_all : zB.all (·.oneCell') = true := by
  rw [Array.all_eq_true_iff_forall_mem]
  intro v hv
  unfold zB bArr at hv
  simp at hv
  obtain ⟨-, rfl⟩ := hv
  rfl
attribute [local go_sem] Oper.semAt_some
set_option maxHeartbeats 6400000 in
theorem vcheck_any (V : Vn) (w : World) (h : IsVn w V) (hrl : ∀ p ∈ tabs V.l 4, p.2.1.refs.length ≤ 1000000) :
    Calls Try.prog 59 #[.agg V.cells] w fun e w' => e = .returned (.int .i64 (chkV (verOk V.l))) ∧ Below w.heap.size w w' := by
  have H := Lib.hid h
  have Hl := Lib.hid hrl
  clear h hrl
  unfold Vn.cells
  refine calls_of_marks Try.func59 rfl ?_
  simp only [Try.ntmps59, List.size_toArray, List.length_cons, List.length_nil, Nat.reduceAdd, Nat.reduceSub, Array.replicate_succ, Array.replicate_zero, List.push_toArray, List.append_toArray, List.nil_append, List.cons_append]
  go_wp2_with (first | (with_reducible refine wpList_value rfl _ _ (run_build_op 99 _ rfl (zB_build _)) ?_) | (with_reducible refine wpList_value rfl _ _ (run_alloc_op 99 _ rfl (zB_alloc _)) ?_) | (with_reducible refine wpList_store_new rfl 99 (.tmp 3) (.tmp 9) rfl _ zB zB rfl rfl rfl zB_info rfl zB_all ?_))
  refine (all_any _ _).mono ?_
  rintro e w' ⟨rfl, rfl⟩
  go_wp2_with fail
  have hsz0 : seenZ (tabs V.l 4) 0 = fun _ => false := by funext z; rfl
  generalize hW : (((w.alloc (.cells #[V.v 0, V.v 1, V.v 2, V.v 3] 61)).alloc (.cells #[.int .i64 0] 35)).alloc (.cells zB 99)).alloc (.cells #[.pointer (some ⟨w.heap.size, 0, none⟩)] 140) = W
  have hWs : W.heap.size = w.heap.size + 1 + 1 + 1 + 1 := by rw [← hW]; simp only [World.size_alloc]
  have hI : ChkI w V 0 W := by
    rw [← hW]
    exact ⟨blk_old (blk_old (blk_old (blk_new rfl _) _) _) _, blk_old (blk_old (blk_new (by simp only [World.size_alloc]) _) _) _, by rw [hsz0]; exact blk_old (blk_new (by simp only [World.size_alloc]) _) _, blk_new (by simp only [World.size_alloc]) _,
      ((((Below.refl _ _).alloc (Nat.le_refl _) _).alloc (by simp) _).alloc (by simp; omega) _).alloc (by simp; omega) _, rfl⟩
  clear hW hsz0
  have HWs := Lib.hid hWs
  clear hWs
  refine range_lawS (gf := 83) (lb := #[.pointer (some ⟨w.heap.size + 1 + 1 + 1, 0, none⟩)]) rfl (enters_of Try.func83 (by kernel_rfl) rfl)
    (all_iter (w.heap.size + 1 + 1 + 1) w.heap.size V w H.out) (tabEnc_size V.l) (ChkI w V) (ChkX w V) (fun k X hX => ⟨hX.2.2.2.1, hX.1, hX.2.2.2.2.1⟩) (chkI_own (by rw [HWs.out]; omega)) (chkX_own (by rw [HWs.out]; omega)) hI ?round ?done ?stop
  case round =>
    rintro yl k X hk hXs ⟨h0, h1, h2, h3, h6, h7⟩
    obtain ⟨p, hp⟩ : ∃ p, (tabs V.l 4)[k]? = some p := ⟨_, List.getElem?_eq_getElem hk⟩
    rw [tabEnc_at V.l hp]
    have hrr := tabs_rr H.out hp
    have hpl := Hl.out p (List.mem_of_getElem? hp)
    have hgd : (tabs V.l 4).getD k (0, Mr.nil) = p := by rw [List.getD_eq_getElem?_getD, hp]; rfl
    obtain ⟨n, ⟨⟨mz, mn, a, b, refs⟩, vr⟩⟩ := p
    dsimp only at hrr hpl
    obtain ⟨ra, rc, hrv, -, -, -⟩ := id hrr
    subst hrv
    have Hrr := Lib.hid hrr
    have Hgd := Lib.hid hgd
    have H0 := Lib.hid h0
    have H1 := Lib.hid h1
    have H2 := Lib.hid h2
    have H3 := Lib.hid h3
    have H6 := Lib.hid h6
    have H7 := Lib.hid h7
    clear hp h0 h1 h2 h3 h6 h7 hrr hgd
    obtain ⟨rn, hrn⟩ : ∃ rn, rn = refs.length := ⟨_, rfl⟩
    rw [← hrn] at Hrr Hgd ⊢
    have Hrn := Lib.hid hrn
    clear hrn
    unfold mrC
    dsimp only
    gi_wp2
    refine ⟨keeps_of ((Below.refl _ _).alloc (Nat.le_refl _) _), ?_⟩
    intro Y hY
    have hI2 : ChkI w V k Y := st_turn (chkI_own (by rw [HWs.out]; omega)) hY ⟨blk_old H0.out _, blk_old H1.out _, blk_old H2.out _, blk_old H3.out _, H6.out.alloc H6.out.size _, H7.out⟩
    have hm := blk_turn hY (blk_new rfl (.cells #[.int .i64 mz, .int .i64 mn, .string a.u, .int .i64 a.s, .int .i64 a.k, .string b.u, .int .i64 b.s, .int .i64 b.k, .slice ra rn rc] 78))
    obtain ⟨h0, h1, h2, h3, h6, h7⟩ := hI2
    clear H0 H1 H2 H3 H6 H7
    have M0 := (cell_of_blk hm 0).trans (show _ = some (.int .i64 mz) from rfl)
    have M1 := (cell_of_blk hm 1).trans (show _ = some (.int .i64 mn) from rfl)
    have M2 := (cell_of_blk hm 2).trans (show _ = some (.string a.u) from rfl)
    have M3 := (cell_of_blk hm 3).trans (show _ = some (.int .i64 a.s) from rfl)
    have M4 := (cell_of_blk hm 4).trans (show _ = some (.int .i64 a.k) from rfl)
    have M5 := (cell_of_blk hm 5).trans (show _ = some (.string b.u) from rfl)
    have M6 := (cell_of_blk hm 6).trans (show _ = some (.int .i64 b.s) from rfl)
    have M7 := (cell_of_blk hm 7).trans (show _ = some (.int .i64 b.k) from rfl)
    have M8 := (cell_of_blk hm 8).trans (show _ = some (.slice ra rn rc) from rfl)
    have hck := callsIn_wide (n := 0).2 (lcheck_any mz mn a b (.slice ra rn rc) refs Y (Hrr.out.below h6) hpl)
    unfold metaV at hck
    have Hm0 := Lib.hid hm
    have hsk : tabsOk (tabs V.l 4) (k + 1) = (tabsOk (tabs V.l 4) k && tabOk (tabs V.l 4) k) := rfl
    have hto : tabOk (tabs V.l 4) k = (metaOk mz mn a b refs && !seenZ (tabs V.l 4) k mz.toNat) := by unfold tabOk; rw [Hgd.out]; rfl
    have hbad : tabOk (tabs V.l 4) k = false → verOk V.l = false := fun q => by unfold verOk; rw [tabsOk_false q _ hk]; rfl
    have hsn : seenZ (tabs V.l 4) (k + 1) = fun z => if z = mz.toNat then true else seenZ (tabs V.l 4) k z := by funext z; show (if z = ((tabs V.l 4).getD k (0, Mr.nil)).2.1.z.toNat then true else _) = _; rw [Hgd.out]
    have Hck := Lib.hid hck
    have Hsk := Lib.hid hsk
    have Hto := Lib.hid hto
    have Hbad := Lib.hid hbad
    have Hsn := Lib.hid hsn
    have H0 := Lib.hid h0
    have H1 := Lib.hid h1
    have H2 := Lib.hid h2
    have H3 := Lib.hid h3
    have H6 := Lib.hid h6
    have H7 := Lib.hid h7
    have hlt1 := blk_lt h1
    clear hck hsk hto hbad hsn h0 h1 h2 h3 h6 h7 hm hY
    cases hok : metaOk mz mn a b refs with
    | false =>
      rw [hok] at Hck Hto
      have Hv := Lib.hid (Hbad.out (by rw [Hto.out]; rfl))
      clear hok
      gi_wp2_with fail
      refine ⟨trivial, rfl, ?_⟩
      refine Hck.out.mono ?_
      rintro e Z ⟨rfl, hZ⟩
      unfold chkM
      have g1 := blk_bels hZ H1.out
      have c1 : Z.cell? ⟨w.heap.size + 1, 0, none⟩ = some (.int .i64 0) := (cell_of_blk g1 0).trans rfl
      have z1 := frozen_of_blk g1 0
      have G1 := Lib.hid g1
      have HB := Lib.hid (H6.out.trans (hZ.mono H6.out.size))
      have HZ := Lib.hid hZ
      clear g1 hZ
      gi_wp2
      exact ⟨(keeps_of HZ.out).trans ((KeepsOthers.setCell _ _ _).from _), rfl, Hv.out, (blk_set G1.out).trans rfl, HB.out.setCell (by simp) _⟩
    | true =>
      have hz := mOk_zone (m := ⟨mz, mn, a, b, refs⟩) hok
      dsimp only at hz
      rw [hok] at Hck Hto
      obtain ⟨Z, rfl⟩ : ∃ Z : Nat, mz = Z := ⟨mz.toNat, by omega⟩
      rw [Int.toNat_natCast] at Hto Hsn
      have hZ4 : (Z : Int) < 64 := hz.2
      have hZ5 : Z < 64 := by omega
      cases hseen : seenZ (tabs V.l 4) k Z with
      | true =>
        rw [hseen] at Hto
        have Hv := Lib.hid (Hbad.out (by rw [Hto.out]; rfl))
        have hget := bArr_get (seenZ (tabs V.l 4) k) hZ5
        rw [hseen] at hget
        clear hok hseen hz
        gi_wp2_with fail
        refine ⟨trivial, rfl, ?_⟩
        refine Hck.out.mono ?_
        rintro e Z' ⟨rfl, hZ'⟩
        unfold chkM
        have g1 := blk_bels hZ' H1.out
        have c1 : Z'.cell? ⟨w.heap.size + 1, 0, none⟩ = some (.int .i64 0) := (cell_of_blk g1 0).trans rfl
        have z1 := frozen_of_blk g1 0
        have c2 : Z'.cell? ⟨w.heap.size + 1 + 1, Z, none⟩ = some (.bool true) := (cell_of_blk (blk_bels hZ' H2.out) Z).trans hget
        have c3 : Z'.cell? ⟨X.heap.size, 0, none⟩ = some (.int .i64 (Z : Int)) := (cell_of_blk (blk_bels hZ' Hm0.out) 0).trans rfl
        have G1 := Lib.hid g1
        have HB := Lib.hid (H6.out.trans (hZ'.mono H6.out.size))
        have HZ := Lib.hid hZ'
        clear g1 hZ' hget
        gi_wp2
        exact ⟨(keeps_of HZ.out).trans ((KeepsOthers.setCell _ _ _).from _), rfl, Hv.out, (blk_set G1.out).trans rfl, HB.out.setCell (by simp) _⟩
      | false =>
        rw [hseen] at Hto
        have hget := bArr_get (seenZ (tabs V.l 4) k) hZ5
        rw [hseen] at hget
        have Hset := Lib.hid (bArr_set (seenZ (tabs V.l 4) k) hZ5)
        clear hok hseen hz
        gi_wp2_with fail
        refine ⟨trivial, rfl, ?_⟩
        refine Hck.out.mono ?_
        rintro e Z' ⟨rfl, hZ'⟩
        unfold chkM
        have g2 := blk_bels hZ' H2.out
        have c2 : Z'.cell? ⟨w.heap.size + 1 + 1, Z, none⟩ = some (.bool false) := (cell_of_blk g2 Z).trans hget
        have z2 := frozen_of_blk g2 Z
        have c3 : Z'.cell? ⟨X.heap.size, 0, none⟩ = some (.int .i64 (Z : Int)) := (cell_of_blk (blk_bels hZ' Hm0.out) 0).trans rfl
        have G0 := Lib.hid (blk_bels hZ' H0.out)
        have G1 := Lib.hid (blk_bels hZ' H1.out)
        have G2 := Lib.hid g2
        have G3 := Lib.hid (blk_bels hZ' H3.out)
        have HB := Lib.hid (H6.out.trans (hZ'.mono H6.out.size))
        have HZ := Lib.hid hZ'
        clear g2 hZ' hget
        gi_wp2
        refine ⟨(keeps_of HZ.out).trans ((KeepsOthers.setCell _ _ _).from _), (Below.heap_setCell _ ⟨w.heap.size + 1 + 1, Z, none⟩ _ _ (by show w.heap.size ≠ w.heap.size + 1 + 1; omega)).trans G0.out, (Below.heap_setCell _ ⟨w.heap.size + 1 + 1, Z, none⟩ _ _ (by show w.heap.size + 1 ≠ w.heap.size + 1 + 1; omega)).trans G1.out, (blk_set G2.out).trans (by rw [Hset.out, Hsn.out]), (Below.heap_setCell _ ⟨w.heap.size + 1 + 1, Z, none⟩ _ _ (by show w.heap.size + 1 + 1 + 1 ≠ w.heap.size + 1 + 1; omega)).trans G3.out, HB.out.setCell (by show w.heap.size ≤ w.heap.size + 1 + 1; omega) _, ?_⟩
        rw [Hsk.out, H7.out, Hto.out]; rfl
  case done =>
    rintro D X hD hXs ⟨h0, h1, h2, h3, h6, h7⟩ hK
    have hDw : w.heap.size + 1 + 1 + 1 + 1 ≤ D := by have := HWs.out; omega
    have H0 := Lib.hid h0
    have H1 := Lib.hid h1
    have H6 := Lib.hid h6
    have H7 := Lib.hid h7
    have HK := Lib.hid hK
    have HV := Lib.hid (H.out.below h6)
    clear h0 h1 h2 h3 h6 h7 hK
    have hleave : ∀ (Y : World) (q : Int) (nd : Nat), Y = X.drewN nd → LeavesInM Fence.wide 0 Try.prog Try.f59 #[.agg #[V.v 0, V.v 1, V.v 2, V.v 3], .pointer (some ⟨w.heap.size, 0, none⟩), .pointer (some ⟨w.heap.size + 1, 0, none⟩)] (fun e w' => True) [] .returning Y → True := fun _ _ _ _ _ => trivial
    clear hleave
    have hend : ∀ (nd : Nat) (q : Int), ((X.drewN nd).setCell ⟨w.heap.size + 1, 0, none⟩ (.int .i64 q)).heap[D]? = some (.deferred (some [])) ∧ (((X.drewN nd).setCell ⟨w.heap.size + 1, 0, none⟩ (.int .i64 q)).putObj D (.deferred none)).cell? ⟨w.heap.size + 1, 0, none⟩ = some (.int .i64 q) ∧ Below w.heap.size w (((X.drewN nd).setCell ⟨w.heap.size + 1, 0, none⟩ (.int .i64 q)).putObj D (.deferred none)) := by
      intro nd q
      have k1 : ((X.drewN nd).setCell ⟨w.heap.size + 1, 0, none⟩ (.int .i64 q)).heap[w.heap.size + 1]? = some (.cells #[.int .i64 q] 35 (0, 0)) := (blk_set (V := X.drewN nd) H1.out).trans rfl
      have kD : ((X.drewN nd).setCell ⟨w.heap.size + 1, 0, none⟩ (.int .i64 q)).heap[D]? = some (.deferred (some [])) := (Below.heap_setCell (X.drewN nd) ⟨w.heap.size + 1, 0, none⟩ _ _ (by show D ≠ w.heap.size + 1; omega)).trans HK.out
      have hb : Below w.heap.size w ((X.drewN nd).setCell ⟨w.heap.size + 1, 0, none⟩ (.int .i64 q)) := (below_drewN H6.out nd).setCell (by show w.heap.size ≤ w.heap.size + 1; omega) _
      exact ⟨kD, (cell_of_blk (blk_put k1 (.deferred none) (by omega)) 0).trans rfl, below_put hb _ (by omega) hb.size⟩
    have Hend := Lib.hid hend
    have hcr : ∀ nd, (X.drewN nd).cell? ⟨w.heap.size + 1, 0, none⟩ = some (.int .i64 0) := fun nd => (cell_of_blk (w := X.drewN nd) H1.out 0).trans rfl
    have hzr : ∀ nd, (X.drewN nd).frozen? ⟨w.heap.size + 1, 0, none⟩ = false := fun nd => frozen_of_blk (w := X.drewN nd) H1.out 0
    have Hcr := Lib.hid hcr
    have Hzr := Lib.hid hzr
    clear hend hcr hzr
    go_wp2_with fail
    go_loopw [28] (fun iv wr => ∃ (i nd : Nat), i ≤ 3 ∧ iv = .int .i64 i ∧ wr = X.drewN nd ∧ ∀ m, m < i → sepOk (V.l (1 + m)) (V.l (1 + m)).length = true) (fun iv _ => 3 - (intOf iv).toNat)
    case atStart => exact ⟨0, 0, by omega, rfl, rfl, fun m hm => absurd hm (Nat.not_lt_zero _)⟩
    case round =>
      obtain ⟨i, nd, hi, rfl, rfl, hsep⟩ := hrel
      have Hsep := Lib.hid hsep
      clear hsep
      by_cases hi3 : i < 3
      · have hn4 : 1 + i < 4 := by omega
        have cv : (X.drewN nd).cell? ⟨w.heap.size, 1 + i, none⟩ = some (V.v (1 + i)) := (cell_of_blk (w := X.drewN nd) H0.out (1 + i)).trans (vn_cell V hn4)
        obtain ⟨⟨la, lc, hlv, hlc, hlm, hx⟩, -⟩ := HV.out (1 + i) hn4
        rw [hlv] at cv
        replace hlm : lc ≤ 9223372036854775807 := by unfold maxLen at hlm; omega
        have Hx := Lib.hid hx
        obtain ⟨ln, hln⟩ : ∃ ln, ln = (V.l (1 + i)).length := ⟨_, rfl⟩
        rw [← hln] at cv hlc
        have Hln := Lib.hid hln
        clear hlv hx hln
        have hii : (i : Int) < 3 := by omega
        go_wp2_with fail
        go_loopw [8] (fun jv wr => ∃ (j nd2 : Nat), 1 ≤ j ∧ (j ≤ ln ∨ j = 1) ∧ jv = .int .i64 j ∧ wr = X.drewN nd2 ∧ (j ≤ ln → sepOk (V.l (1 + i)) j = true)) (fun jv _ => ln - (intOf jv).toNat)
        case atStart => exact ⟨1, nd, Nat.le_refl _, .inr rfl, rfl, rfl, fun _ => by simp [sepOk, sepAt]⟩
        case round =>
          obtain ⟨j, nd2, hj1, hj2, rfl, rfl, hso⟩ := hrel
          have Hso := Lib.hid hso
          clear hso cv
          by_cases hjl : j < ln
          · obtain ⟨rb, off, rfl, hcell⟩ := Hx.out (by rw [← List.length_pos_iff]; have := Hln.out; omega)
            obtain ⟨t, hjt⟩ : ∃ t, j = t + 1 := ⟨j - 1, by omega⟩
            obtain ⟨r0, hr0⟩ : ∃ r, (V.l (1 + i))[t]? = some r := ⟨_, List.getElem?_eq_getElem (by rw [← Hln.out]; omega)⟩
            obtain ⟨r1, hr1⟩ : ∃ r, (V.l (1 + i))[j]? = some r := ⟨_, List.getElem?_eq_getElem (by rw [← Hln.out]; omega)⟩
            have b5 : X.cell? ⟨rb, off + t * 9 + 5, none⟩ = some (.string r0.1.b.u) := hcell t r0 hr0 5 _ rfl
            have b2 : X.cell? ⟨rb, off + j * 9 + 2, none⟩ = some (.string r1.1.a.u) := hcell j r1 hr1 2 _ rfl
            have hsa : sepAt (V.l (1 + i)) j = decide (cmpB r0.1.b.u r1.1.a.u < 0) := by
              unfold sepAt
              rw [List.getD_eq_getElem?_getD, List.getD_eq_getElem?_getD, show j - 1 = t by omega, hr0, hr1, decide_eq_false (show ¬ j = 0 by omega)]; rfl
            have hss : sepOk (V.l (1 + i)) (j + 1) = (sepOk (V.l (1 + i)) j && sepAt (V.l (1 + i)) j) := rfl
            have hle := less_cmpB r0.1.b.u r1.1.a.u
            have hwr : IntKind.i64.wrap ((j : Int) - 1) = (t : Int) := (IntWalk.i64_in _ (by omega)).trans (by omega)
            have htl : t < ln := by omega
            have Hsa := Lib.hid hsa
            have Hss := Lib.hid hss
            have Hjt := Lib.hid hjt
            clear hcell hr0 hr1 hsa hss hj2 hjt
            generalize r0.1.b.u = s0 at *
            generalize r1.1.a.u = s1 at *
            cases hlt : decide (cmpB s0 s1 < 0) with
            | true =>
              rw [hlt] at hle Hsa
              clear hlt
              go_wp2_with fail
              go_quiet (fail)
              go_wp2
              go_roundw
              case rel => exact ⟨j + 1, _, by omega, .inl (by omega), by go_num, rfl, fun _ => by rw [Hss.out, Hso.out (by omega), Hsa.out]; rfl⟩
              case measure => simp [intOf]; omega
            | false =>
              rw [hlt] at hle Hsa
              clear hlt
              have c1 : X.cell? ⟨w.heap.size + 1, 0, none⟩ = some (.int .i64 0) := Hcr.out 0
              have z1 : X.frozen? ⟨w.heap.size + 1, 0, none⟩ = false := Hzr.out 0
              have hbad : verOk V.l = false := by
                have hs : sepOk (V.l (1 + i)) (V.l (1 + i)).length = false := sepOk_false Hsa.out _ (by rw [← Hln.out]; exact hjl)
                have hi' : i = 0 ∨ i = 1 ∨ i = 2 := by omega
                unfold verOk
                rcases hi' with rfl | rfl | rfl
                · rw [show sepOk (V.l 1) (V.l 1).length = false from hs]; simp
                · rw [show sepOk (V.l 2) (V.l 2).length = false from hs]; simp
                · rw [show sepOk (V.l 3) (V.l 3).length = false from hs]; simp
              have Hbad := Lib.hid hbad
              clear hbad
              go_wp2_with fail
              go_quiet (fail)
              go_wp2
              refine leave_mark (Hend.out _ 150).1 (v := .int .i64 150) ?_ ⟨?_, (Hend.out _ 150).2.2⟩
              · simp [results, Try.results59, go_sem, (Hend.out _ 150).2.1]
              · rw [Hbad.out]; rfl
          · have hfull : sepOk (V.l (1 + i)) (V.l (1 + i)).length = true := by
              rw [← Hln.out]
              rcases hj2 with h | h
              · have e : j = ln := by omega
                rw [← e]; exact Hso.out h
              · have e : ln = 0 ∨ ln = 1 := by omega
                rcases e with e | e
                · rw [e]; rfl
                · rw [e]; simp [sepOk, sepAt]
            have Hfull := Lib.hid hfull
            clear hfull
            go_wp2
            go_roundw
            case rel =>
              refine ⟨i + 1, nd2, by omega, by go_num, rfl, fun m hm => ?_⟩
              rcases Nat.lt_succ_iff_lt_or_eq.1 hm with h | rfl
              · exact Hsep.out m h
              · exact Hfull.out
            case measure => simp [intOf]; omega
      · obtain rfl : i = 3 := by omega
        have hgood : verOk V.l = true := by
          unfold verOk
          rw [H7.out, show sepOk (V.l 1) (V.l 1).length = true from Hsep.out 0 (by omega), show sepOk (V.l 2) (V.l 2).length = true from Hsep.out 1 (by omega), show sepOk (V.l 3) (V.l 3).length = true from Hsep.out 2 (by omega)]; rfl
        have c1 : X.cell? ⟨w.heap.size + 1, 0, none⟩ = some (.int .i64 0) := Hcr.out 0
        have z1 : X.frozen? ⟨w.heap.size + 1, 0, none⟩ = false := Hzr.out 0
        have Hgood := Lib.hid hgood
        clear hgood
        go_wp2
        refine leave_mark (Hend.out _ 0).1 (v := .int .i64 0) ?_ ⟨?_, (Hend.out _ 0).2.2⟩
        · simp [results, Try.results59, go_sem, (Hend.out _ 0).2.1]
        · rw [Hgood.out]; rfl
  case stop =>
    rintro D c k X hD hXs hk ⟨rfl, hT, h1, h5⟩ hK
    go_wp2
    have hn1 : w.heap.size + 1 ≠ D := by have := HWs.out; omega
    have e1 : (X.putObj D (.deferred none)).cell? ⟨w.heap.size + 1, 0, none⟩ = some (.int .i64 150) := (cell_of_blk (blk_put h1 (.deferred none) hn1) 0).trans rfl
    refine leave_mark hK (v := .int .i64 150) ?_ ⟨?_, ?_⟩
    · simp [results, Try.results59, go_sem, e1]
    · rw [hT]; rfl
    · exact below_put h5 _ (by rw [HWs.out] at hD; omega) h5.size
end Go.Proofs.Ythjjelomlgmllaa.Tithe
