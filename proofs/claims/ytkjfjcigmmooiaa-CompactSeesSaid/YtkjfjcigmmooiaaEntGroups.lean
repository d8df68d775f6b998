/- Entries of one user's key, one group behind the other: compact.groups, walked. -/
import Derived.Test.YtkjfjcigmmooiaaEntSeen
import Derived.Test.YtkjfjcigmmooiaaRangeK
import Derived.Sort.LoopGhostIn
namespace Go.Proofs.Ytkjfjcigmmooiaa.Tithe
open Go.RowKit Go.Sort Go.Shelf
set_option linter.unusedVariables false
/-! ### the plain law -/
def headRun : List En → Nat
  | [] => 0
  | x :: l => match (x :: l).findIdx? (fun y => decide (cmpB y.key.u x.key.u ≠ 0)) with | some i => i | none => (x :: l).length
theorem headRun_some {x : En} {l : List En} {i : Nat} (h : (x :: l).findIdx? (fun y => decide (cmpB y.key.u x.key.u ≠ 0)) = some i) : headRun (x :: l) = i := by
  show (match (x :: l).findIdx? (fun y => decide (cmpB y.key.u x.key.u ≠ 0)) with | some i => i | none => (x :: l).length) = i
  rw [h]
theorem headRun_none {x : En} {l : List En} (h : (x :: l).findIdx? (fun y => decide (cmpB y.key.u x.key.u ≠ 0)) = none) : headRun (x :: l) = (x :: l).length := by
  show (match (x :: l).findIdx? (fun y => decide (cmpB y.key.u x.key.u ≠ 0)) with | some i => i | none => (x :: l).length) = _
  rw [h]
theorem headRun_le : ∀ l : List En, headRun l ≤ l.length
  | [] => Nat.le_refl _
  | x :: l => by
    cases h : (x :: l).findIdx? (fun y => decide (cmpB y.key.u x.key.u ≠ 0)) with
    | none => rw [headRun_none h]; exact Nat.le_refl _
    | some i =>
      rw [headRun_some h]
      have := (List.findIdx?_eq_some_iff_getElem.1 h).1
      omega
theorem headRun_pos : ∀ {l : List En}, l ≠ [] → 1 ≤ headRun l
  | [], h => absurd rfl h
  | x :: l, _ => by
    cases h : (x :: l).findIdx? (fun y => decide (cmpB y.key.u x.key.u ≠ 0)) with
    | none => rw [headRun_none h]; simp
    | some i =>
      rw [headRun_some h]
      obtain ⟨h1, h2, h3⟩ := List.findIdx?_eq_some_iff_getElem.1 h
      rcases Nat.eq_zero_or_pos i with q | q
      · subst q
        simp [cmpB_self] at h2
      · exact q
def IsGr : List En → List (List En) → Prop
  | l, [] => l = []
  | l, g :: gs => g = l.take (headRun l) ∧ l ≠ [] ∧ IsGr (l.drop (headRun l)) gs
def groupsF : Nat → List En → List (List En)
  | 0, _ => []
  | f + 1, l => if l.length = 0 then [] else l.take (headRun l) :: groupsF f (l.drop (headRun l))
def groupsL (l : List En) : List (List En) := groupsF l.length l
theorem isGr_F : ∀ (f : Nat) (l : List En), l.length ≤ f → IsGr l (groupsF f l)
  | 0, l, h => List.eq_nil_of_length_eq_zero (by omega)
  | f + 1, l, h => by
    unfold groupsF
    split
    · rename_i q; exact List.eq_nil_of_length_eq_zero q
    · rename_i q
      have hne : l ≠ [] := by rintro rfl; simp at q
      refine ⟨rfl, hne, isGr_F f _ ?_⟩
      have := headRun_pos hne
      rw [List.length_drop]; omega
theorem isGr_groups (l : List En) : IsGr l (groupsL l) := isGr_F _ l (Nat.le_refl _)
theorem isGr_flat : ∀ (gs : List (List En)) (l : List En), IsGr l gs → gs.flatten = l
  | [], l, h => by rw [show l = [] from h]; rfl
  | g :: gs, l, ⟨h1, h2, h3⟩ => by
    rw [List.flatten_cons, isGr_flat gs _ h3, h1, List.take_append_drop]
def posG (gs : List (List En)) (k : Nat) : Nat := ((gs.take k).flatten).length
theorem posG_zero (gs : List (List En)) : posG gs 0 = 0 := by simp [posG]
theorem posG_succ {gs : List (List En)} {k : Nat} {g : List En} (h : gs[k]? = some g) : posG gs (k + 1) = posG gs k + g.length := by
  unfold posG; rw [List.take_add_one, h, List.flatten_append, List.length_append]; simp
theorem isGr_drop : ∀ (k : Nat) (gs : List (List En)) (l : List En), IsGr l gs → k ≤ gs.length → IsGr (l.drop (posG gs k)) (gs.drop k)
  | 0, gs, l, h, _ => by rw [posG_zero]; exact h
  | k + 1, [], l, h, hk => by simp at hk
  | k + 1, g :: gs, l, ⟨h1, h2, h3⟩, hk => by
    have := isGr_drop k gs _ h3 (by simpa using hk)
    rw [List.drop_drop] at this
    have hg : g.length = headRun l := by rw [h1, List.length_take]; have := headRun_le l; omega
    have e : posG (g :: gs) (k + 1) = headRun l + posG gs k := by
      unfold posG; rw [List.take_succ_cons, List.flatten_cons, List.length_append, hg]
    rw [e, List.drop_succ_cons]; exact this
structure GrAt (l : List En) (gs : List (List En)) (k : Nat) (g : List En) : Prop where
  ne : l.drop (posG gs k) ≠ []
  run : headRun (l.drop (posG gs k)) = g.length
  eq : g = (l.drop (posG gs k)).take g.length
  pos : 1 ≤ g.length
  succ : posG gs (k + 1) = posG gs k + g.length
  le : posG gs k + g.length ≤ l.length
theorem grAt {l : List En} {gs : List (List En)} (h : IsGr l gs) {k : Nat} {g : List En} (hg : gs[k]? = some g) : GrAt l gs k g := by
  obtain ⟨hk, he⟩ := List.getElem?_eq_some_iff.1 hg
  have h2 := isGr_drop k gs l h (by omega)
  rw [List.drop_eq_getElem_cons hk, he] at h2
  obtain ⟨h3, h4, h5⟩ := h2
  have hle := headRun_le (l.drop (posG gs k))
  have hl : g.length = headRun (l.drop (posG gs k)) := by rw [h3, List.length_take]; omega
  refine ⟨h4, hl.symm, by rw [hl]; exact h3, by rw [hl]; exact headRun_pos h4, posG_succ hg, ?_⟩
  rw [List.length_drop] at hle
  have : (l.drop (posG gs k)).length ≠ 0 := fun q => h4 (List.eq_nil_of_length_eq_zero q)
  rw [List.length_drop] at this
  omega
theorem posG_end {l : List En} {gs : List (List En)} (h : IsGr l gs) : posG gs gs.length = l.length := by
  unfold posG; rw [List.take_length, isGr_flat gs l h]
theorem posG_lt {l : List En} {gs : List (List En)} (h : IsGr l gs) {k : Nat} (hk : k < gs.length) : posG gs k < l.length := by
  have := grAt h (List.getElem?_eq_getElem hk)
  have h1 := this.pos
  have h2 := this.le
  omega
theorem head_idx : ∀ {r : List En}, r ≠ [] → ∃ x, r[0]? = some x ∧ ((headRun r : Int) = idxI r (fun y => decide (cmpB y.key.u x.key.u ≠ 0)) ∨ (idxI r (fun y => decide (cmpB y.key.u x.key.u ≠ 0)) = -1 ∧ headRun r = r.length))
  | [], h => absurd rfl h
  | x :: r, _ => by
    refine ⟨x, rfl, ?_⟩
    cases h : (x :: r).findIdx? (fun y => decide (cmpB y.key.u x.key.u ≠ 0)) with
    | none => exact .inr ⟨by unfold idxI; rw [h], headRun_none h⟩
    | some i => exact .inl (by unfold idxI; rw [h, headRun_some h])
/-! ### the closure that tells another user's entry -/
theorem neqs_cmpB (a b : ByteArray) : (!a.toList == b.toList) = decide (cmpB a b ≠ 0) := by
  rw [beq_cmpB]; simp
theorem cell_blk {w : World} {b : Nat} {cs : Array Value} {t : TypeId} {fr : Nat × Nat} (h : w.heap[b]? = some (.cells cs t fr)) (i : Nat) : w.cell? ⟨b, i, none⟩ = cs[i]? := by
  simp [World.cell?, h]
set_option maxHeartbeats 800000 in
theorem other_any (u : ByteArray) (s k : Int) (val : ByteArray) (cb : Nat) (bg og ng cg : Nat) (u0 : ByteArray) (W : World) (hc : W.cell? ⟨cb, 0, none⟩ = some (.slice (some ⟨bg, og, none⟩) ng cg)) (hn : 0 < ng) (h0 : W.cell? ⟨bg, og, none⟩ = some (.string u0)) :
    Calls Try.prog 68 #[.agg #[.string u, .int .i64 s, .int .i64 k, .string val], .pointer (some ⟨cb, 0, none⟩)] W fun e W' => e = .returned (.bool (decide (cmpB u u0 ≠ 0))) ∧ Below W.heap.size W W' := by
  have hx : (W.alloc (.cells #[.string u, .int .i64 s, .int .i64 k, .string val] 30)).cell? ⟨cb, 0, none⟩ = some (.slice (some ⟨bg, og, none⟩) ng cg) := by rw [World.cell?_alloc_lt W _ _ (block_lt_of_cell hc)]; exact hc
  have hx0 : (W.alloc (.cells #[.string u, .int .i64 s, .int .i64 k, .string val] 30)).cell? ⟨bg, og, none⟩ = some (.string u0) := by rw [World.cell?_alloc_lt W _ _ (block_lt_of_cell h0)]; exact h0
  have hxx : (W.alloc (.cells #[.string u, .int .i64 s, .int .i64 k, .string val] 30)).cell? ⟨W.heap.size, 0, none⟩ = some (.string u) := by rw [World.cell?_alloc_mark]; rfl
  have hb : Below W.heap.size W (W.alloc (.cells #[.string u, .int .i64 s, .int .i64 k, .string val] 30)) := (Below.refl _ _).alloc (Nat.le_refl _) _
  have Hl := Lib.hid (neqs_cmpB u u0)
  have Hb := Lib.hid hb
  have Hx := Lib.hid hx
  have Hx0 := Lib.hid hx0
  have Hxx := Lib.hid hxx
  clear hc h0 hb hx hx0 hxx
  have hng : (0 : Int) < (ng : Int) := by omega
  go_enter Try.func68, Try.ntmps68
  go_wp2_with fail
  generalize W.alloc (.cells #[.string u, .int .i64 s, .int .i64 k, .string val] 30) = V at *
  have hx := Hx.out
  have hx0 := Hx0.out
  have hxx := Hxx.out
  go_quiet (fail)
  go_wp2
  go_ret
  exact ⟨by rw [← Hl.out]; rfl, below_drewN Hb.out _⟩
/-! ### the iterator -/
theorem grown_setCell' (w : World) (g i : Nat) (v : Value) : w.grownBy (w.setCell ⟨g, i, none⟩ v) (some g) :=
  ⟨rfl, rfl, rfl, by simp [World.setCell], fun k _ hn => Below.heap_setCell w _ _ k (fun e => hn (by rw [e]))⟩
theorem blk_setCell {V : World} {b i : Nat} {cs : Array Value} {ty : TypeId} {fr : Nat × Nat} {v : Value} (h : V.heap[b]? = some (.cells cs ty fr)) : (V.setCell ⟨b, i, none⟩ v).heap[b]? = some (.cells (cs.setIfInBounds i v) ty fr) := by
  simp [World.setCell, Array.getElem?_modify, h]
theorem grown_of_below {w w' : World} {row : Option Nat} (h : Below w.heap.size w w') : w.grownBy w' row := ⟨h.os, h.tape, h.output, h.size, fun k hk _ => h.block k hk⟩
theorem frozen_blk {w : World} {b : Nat} {cs : Array Value} {t : TypeId} (h : w.heap[b]? = some (.cells cs t (0, 0))) (i : Nat) : w.frozen? ⟨b, i, none⟩ = false := by
  simp [World.frozen?, h]
def restA (a : Option Addr) (p : Nat) : Option Addr := a.map fun ad => ⟨ad.block, ad.off + p * 4, ad.spot⟩
def restv (a : Option Addr) (n c p : Nat) : Value := .slice (restA a p) (n - p) (c - p)
theorem restv_zero (a : Option Addr) (n c : Nat) : restv a n c 0 = .slice a n c := by
  cases a <;> simp [restv, restA]
def GrDat (s : Nat) (w0 : World) (a : Option Addr) (n c : Nat) (gs : List (List En)) : Nat → World → Prop
  | 0, W => W.heap[s]? = some (.cells #[restv a n c 0] 22 (0, 0)) ∧ Below w0.heap.size w0 W
  | k + 1, W => W.heap[s]? = some (.cells #[restv a n c (posG gs k)] 22 (0, 0)) ∧ Below w0.heap.size w0 W
def CurIt (cb : Nat) (A B : World) : Prop := A.grownBy B (some cb) ∧ ∃ cs t fr, A.heap[cb]? = some (.cells cs t fr)
def grEnc (a : Option Addr) (c : Nat) (gs : List (List En)) (k : Nat) : Array Value := #[.slice (restA a (posG gs k)) (gs.getD k []).length (c - posG gs k)]
attribute [local go_sem] Oper.semAt_some
set_option maxHeartbeats 1600000 in
theorem groups_iter (s : Nat) (w0 : World) (a : Option Addr) (n c : Nat) (l : List En) (gs : List (List En)) (h : IsEs w0 (.slice a n c) l) (hgr : IsGr l gs) (hs : w0.heap.size ≤ s) :
    IterOkK Try.prog 67 #[.pointer (some ⟨s, 0, none⟩)] (grEnc a c gs) gs.length (GrDat s w0 a n c gs) (CurIt s) := by
  intro yl J Jx W hdat hJ hJx hY h0
  obtain ⟨hd1, hd2⟩ := hdat
  have H := Lib.hid h
  obtain ⟨hn, hc, hm, hx⟩ := h.at
  have Hx := Lib.hid hx
  have HY := Lib.hid hY
  have HJ := Lib.hid hJ
  have Hgr := Lib.hid hgr
  have Hn := Lib.hid hn
  have hpe := posG_end hgr
  have Hpe := Lib.hid hpe
  have Hd1 := Lib.hid hd1
  have Hd2 := Lib.hid hd2
  clear h hx hY hJ hJx hgr hpe hd1 hd2
  refine callsIn_of_wp Try.func67 rfl trivial ?_
  simp only [Try.ntmps67, List.size_toArray, List.length_cons, List.length_nil, Nat.reduceAdd, Nat.reduceSub, Array.replicate_succ, Array.replicate_zero, List.push_toArray, List.append_toArray, List.nil_append, List.cons_append]
  gi_wp2_with fail
  gi_loopg [3] (gs.length + 1) (fun g nv wr => ∃ k : Nat, k ≤ gs.length ∧ g = gs.length - k + 1 ∧ J k wr ∧ Below w0.heap.size w0 wr ∧ ∃ rv, wr.heap[s]? = some (.cells #[rv] 22 (0, 0)) ∧ ((k < gs.length ∧ rv = restv a n c (posG gs k)) ∨ (k = gs.length ∧ ∃ a' c', rv = .slice a' 0 c')))
  case atStart =>
    refine ⟨0, Nat.zero_le _, rfl, h0, Hd2.out, _, Hd1.out, ?_⟩
    rcases Nat.eq_zero_or_pos gs.length with q | q
    · have hz : n = 0 := by
        have := Hpe.out
        rw [q, posG_zero] at this
        have := Hn.out
        omega
      exact .inr ⟨q.symm, _, _, by rw [restv_zero, hz]⟩
    · exact .inl ⟨q, by rw [posG_zero]⟩
  case round =>
    obtain ⟨k, hk, rfl, hjk, hbw, rv, hblk, hcase⟩ := hrel
    have Hblk := Lib.hid hblk
    have Hbw := Lib.hid hbw
    have Hjk := Lib.hid hjk
    clear hblk hbw hjk
    rcases hcase with ⟨hkN, rfl⟩ | ⟨rfl, a', c', rfl⟩
    · obtain ⟨g, hg⟩ : ∃ g, gs[k]? = some g := ⟨_, List.getElem?_eq_getElem hkN⟩
      have G := grAt Hgr.out hg
      have hgd : gs.getD k [] = g := by rw [List.getD_eq_getElem?_getD, hg]; rfl
      have hnl := Hn.out
      have hgp := G.pos
      have hgle := G.le
      obtain ⟨b, off, rfl, -⟩ := Hx.out (by omega)
      obtain ⟨x, hx0, hidx⟩ := head_idx G.ne
      have hrest : IsEs wr (.slice (some ⟨b, off + posG gs k * 4, none⟩) (n - posG gs k) (c - posG gs k)) (l.drop (posG gs k)) := (H.out.drop (posG gs k) (by omega) _ rfl).below (Hbw.out.mono (Nat.le_refl _) |> fun q => q)
      have hrv : restv (some ⟨b, off, none⟩) n c (posG gs k) = .slice (some ⟨b, off + posG gs k * 4, none⟩) (n - posG gs k) (c - posG gs k) := rfl
      have henc : grEnc (some ⟨b, off, none⟩) c gs k = #[.slice (some ⟨b, off + posG gs k * 4, none⟩) g.length (c - posG gs k)] := by unfold grEnc; rw [hgd]; rfl
      have hnx : posG gs (k + 1) = posG gs k + g.length := G.succ
      have hrun := G.run
      rw [hrun] at hidx
      have hlast : k + 1 = gs.length → posG gs k + g.length = n := fun q => by rw [← hnx, q, Hpe.out, hnl]
      have hnlast : k + 1 < gs.length → posG gs k + g.length < n := fun q => by rw [← hnx]; have := posG_lt Hgr.out q; omega
      have hnv : restv (some ⟨b, off, none⟩) n c (posG gs (k + 1)) = .slice (some ⟨b, off + posG gs k * 4 + g.length * 4, none⟩) (n - posG gs k - g.length) (c - posG gs k - g.length) := by
        rw [hnx]
        show Value.slice (some ⟨b, off + (posG gs k + g.length) * 4, none⟩) _ _ = _
        rw [Nat.add_mul, Nat.add_assoc, Nat.sub_sub, Nat.sub_sub]
      have hlen : (l.drop (posG gs k)).length = n - posG gs k := by rw [List.length_drop, hnl]
      rw [hlen] at hidx
      have HEnd : Hid (c - posG gs k = g.length → k + 1 = gs.length) := by
        intro q
        by_cases q2 : k + 1 < gs.length
        · have := hnlast q2; omega
        · omega
      have HEnd2 : Hid (k + 1 = gs.length → n - posG gs k - g.length = 0) := by
        intro q; have := hlast q; omega
      have hmc : n - posG gs k ≤ c - posG gs k := by omega
      have hgm : g.length ≤ n - posG gs k := by omega
      have hm1 : 1 ≤ n - posG gs k := by omega
      rw [hrv] at Hblk
      have hc0 : wr.cell? ⟨s, 0, none⟩ = some (.slice (some ⟨b, off + posG gs k * 4, none⟩) (n - posG gs k) (c - posG gs k)) := by rw [cell_blk Hblk.out]; rfl
      have hcm : c - posG gs k ≤ 9223372036854775807 := by omega
      have HRV := Lib.hid hrv
      have HEnc := Lib.hid henc
      have HNx := Lib.hid hnv
      have Hrest := Lib.hid hrest
      clear hrv henc hnv hrest G hgd hnl hgle hlast hnlast hlen hrun hnx hg
      generalize off + posG gs k * 4 = o at *
      generalize n - posG gs k = m at *
      generalize c - posG gs k = cc at *
      obtain ⟨gl, hgl⟩ : ∃ gl, gl = g.length := ⟨_, rfl⟩
      rw [← hgl] at hgp hidx HEnc HNx HEnd HEnd2 hgm
      have Hgl := Lib.hid hgl
      clear hgl
      have hx00 := IsEs.row (Hrest.out.at.2.2.2 (by omega)).choose_spec.choose_spec.2 hx0
      have hfirst : wr.cell? ⟨b, o, none⟩ = some (.string x.key.u) := by
        obtain ⟨b', o', e, hcell⟩ := Hrest.out.at.2.2.2 (by omega)
        injection e with e
        injection e with e1 e2
        subst e1 e2
        have := (IsEs.row hcell hx0).1
        rwa [Nat.zero_mul, Nat.add_zero] at this
      have hi := callsIn_wide (n := 0).2 (index_any 68 (.pointer (some ⟨s, 0, none⟩)) (fun y => decide (cmpB y.key.u x.key.u ≠ 0)) _ _ wr Hrest.out (fun args W => by go_simp) (fun u sq kd val W hW => other_any u sq kd val s b o m cc x.key.u W ((hW.cell (block_lt_of_cell hc0)).trans hc0) (by omega) ((hW.cell (block_lt_of_cell hfirst)).trans hfirst)))
      have c0 := hc0
      have Hi := Lib.hid hi
      have Hidx := Lib.hid hidx
      clear hx00 hfirst hi hc0 hidx hx0
      rcases Hidx.out with hq | ⟨hq, hq2⟩
      · have hi := Hi.out
        rw [← hq] at hi
        have Hi' := Lib.hid hi
        clear hi Hi hq Hidx
        gi_wp2_with fail
        refine ⟨trivial, rfl, ?_⟩
        refine Hi'.out.mono ?_
        rintro e w2 ⟨rfl, hb2⟩
        have hj2 := HJ.out k wr w2 Hjk.out ⟨grown_of_below hb2, _, _, _, Hblk.out⟩
        have hblk2 := (hb2.block s (Array.getElem?_eq_some_iff.1 Hblk.out).1).trans Hblk.out
        have hbw2 : Below w0.heap.size w0 w2 := Hbw.out.trans (hb2.mono Hbw.out.size)
        have hd2 : GrDat s w0 (some ⟨b, off, none⟩) n c gs (k + 1) w2 := ⟨by rw [HRV.out]; exact hblk2, hbw2⟩
        have hY := HY.out k w2 hkN hj2 hd2
        rw [HEnc.out] at hY
        obtain ⟨fn, tmps, assign, body, hy, hR⟩ := hY
        have c2 : w2.cell? ⟨s, 0, none⟩ = some (.slice (some ⟨b, o, none⟩) m cc) := by rw [cell_blk hblk2]; rfl
        clear hj2 hblk2 hbw2 hd2 hb2
        gi_wp2
        refine ⟨rfl, hR.mono ?_⟩
        rintro e W3 (⟨rfl, hJ3, hd3, hb3⟩ | ⟨rfl, hJx3⟩)
        · rw [HRV.out] at hd3
          have c3 : W3.cell? ⟨s, 0, none⟩ = some (.slice (some ⟨b, o, none⟩) m cc) := by rw [cell_blk hd3]; rfl
          have c4 : W3.frozen? ⟨s, 0, none⟩ = false := frozen_blk hd3 0
          have Hd3 := Lib.hid hd3
          have Hb3 := Lib.hid hb3
          have HJ3 := Lib.hid hJ3
          clear hd3 hb3 hJ3 hy hR c0 c2
          by_cases hcg : cc = gl
          · have hmg : m - gl = 0 := by omega
            have hend : k + 1 = gs.length := HEnd.out hcg
            gi_wp2
            gi_roundg (gs.length - (k + 1) + 1)
            case measure => omega
            case rel =>
              refine ⟨k + 1, by omega, rfl, HJ.out _ _ _ HJ3.out ⟨grown_setCell' _ _ _ _, _, _, _, Hd3.out⟩, Hb3.out.trans (grown_below (grown_setCell' _ _ _ _) hs Hb3.out.size), _, blk_setCell Hd3.out, .inr ⟨hend, _, _, by first | (rw [hmg]; rfl) | rfl⟩⟩
          · have hne : ¬ cc = gl := hcg
            gi_wp2
            gi_roundg (gs.length - (k + 1) + 1)
            case measure => omega
            case rel =>
              refine ⟨k + 1, by omega, rfl, HJ.out _ _ _ HJ3.out ⟨grown_setCell' _ _ _ _, _, _, _, Hd3.out⟩, Hb3.out.trans (grown_below (grown_setCell' _ _ _ _) hs Hb3.out.size), _, blk_setCell Hd3.out, ?_⟩
              by_cases hk1 : k + 1 < gs.length
              · exact .inl ⟨hk1, by first | exact HNx.out.symm | (rw [HNx.out, Nat.sub_self])⟩
              · exact .inr ⟨by omega, _, _, by first | rfl | rw [HEnd2.out (by omega)]⟩
        · gi_wp2
          exact bodyPost_ret (results_none rfl _ _ _) rfl ⟨⟨_, rfl⟩, .inr ⟨k, hkN, hJx3⟩⟩
      · have hi := Hi.out
        rw [hq] at hi
        have Hi' := Lib.hid hi
        obtain rfl : gl = m := hq2
        clear hi Hi hq Hidx
        gi_wp2_with fail
        refine ⟨trivial, rfl, ?_⟩
        refine Hi'.out.mono ?_
        rintro e w2 ⟨rfl, hb2⟩
        have hj2 := HJ.out k wr w2 Hjk.out ⟨grown_of_below hb2, _, _, _, Hblk.out⟩
        have hblk2 := (hb2.block s (Array.getElem?_eq_some_iff.1 Hblk.out).1).trans Hblk.out
        have hbw2 : Below w0.heap.size w0 w2 := Hbw.out.trans (hb2.mono Hbw.out.size)
        have hd2 : GrDat s w0 (some ⟨b, off, none⟩) n c gs (k + 1) w2 := ⟨by rw [HRV.out]; exact hblk2, hbw2⟩
        have hY := HY.out k w2 hkN hj2 hd2
        rw [HEnc.out] at hY
        obtain ⟨fn, tmps, assign, body, hy, hR⟩ := hY
        have c2 : w2.cell? ⟨s, 0, none⟩ = some (.slice (some ⟨b, o, none⟩) gl cc) := by rw [cell_blk hblk2]; rfl
        clear hj2 hblk2 hbw2 hd2 hb2
        gi_wp2
        refine ⟨rfl, hR.mono ?_⟩
        rintro e W3 (⟨rfl, hJ3, hd3, hb3⟩ | ⟨rfl, hJx3⟩)
        · rw [HRV.out] at hd3
          have c3 : W3.cell? ⟨s, 0, none⟩ = some (.slice (some ⟨b, o, none⟩) gl cc) := by rw [cell_blk hd3]; rfl
          have c4 : W3.frozen? ⟨s, 0, none⟩ = false := frozen_blk hd3 0
          have Hd3 := Lib.hid hd3
          have Hb3 := Lib.hid hb3
          have HJ3 := Lib.hid hJ3
          clear hd3 hb3 hJ3 hy hR c0 c2
          by_cases hcg : cc = gl
          · have hmg : gl - gl = 0 := by omega
            have hend : k + 1 = gs.length := HEnd.out hcg
            gi_wp2
            gi_roundg (gs.length - (k + 1) + 1)
            case measure => omega
            case rel =>
              refine ⟨k + 1, by omega, rfl, HJ.out _ _ _ HJ3.out ⟨grown_setCell' _ _ _ _, _, _, _, Hd3.out⟩, Hb3.out.trans (grown_below (grown_setCell' _ _ _ _) hs Hb3.out.size), _, blk_setCell Hd3.out, .inr ⟨hend, _, _, by first | (rw [hmg]; rfl) | rfl⟩⟩
          · have hne : ¬ cc = gl := hcg
            gi_wp2
            gi_roundg (gs.length - (k + 1) + 1)
            case measure => omega
            case rel =>
              refine ⟨k + 1, by omega, rfl, HJ.out _ _ _ HJ3.out ⟨grown_setCell' _ _ _ _, _, _, _, Hd3.out⟩, Hb3.out.trans (grown_below (grown_setCell' _ _ _ _) hs Hb3.out.size), _, blk_setCell Hd3.out, ?_⟩
              by_cases hk1 : k + 1 < gs.length
              · exact .inl ⟨hk1, by first | exact HNx.out.symm | (rw [HNx.out, Nat.sub_self])⟩
              · exact .inr ⟨by omega, _, _, by first | rfl | rw [HEnd2.out (by omega)]⟩
        · gi_wp2
          exact bodyPost_ret (results_none rfl _ _ _) rfl ⟨⟨_, rfl⟩, .inr ⟨k, hkN, hJx3⟩⟩
    · have c0 : wr.cell? ⟨s, 0, none⟩ = some (.slice a' 0 c') := by rw [cell_blk Hblk.out]; rfl
      gi_wp2
      go_end0
      exact ⟨⟨_, rfl⟩, .inl Hjk.out⟩
end Go.Proofs.Ytkjfjcigmmooiaa.Tithe
