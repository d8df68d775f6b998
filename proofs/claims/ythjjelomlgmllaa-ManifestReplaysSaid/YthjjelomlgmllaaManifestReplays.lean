/- THE LAW ManifestReplays: walked (printed by mkreplays.py). -/
import Derived.Test.YthjjelomlgmllaaManSt
import Derived.Test.YthjjelomlgmllaaManRec
import Derived.Test.YthjjelomlgmllaaManAwake
import Derived.Test.YthjjelomlgmllaaManSmall
import Derived.Test.YthjjelomlgmllaaManOpenR
import Derived.Deep.RegionHeld3
namespace Go.Proofs.Ythjjelomlgmllaa.Tithe
open Go.RowKit Go.Sort Go.Shelf
set_option linter.unusedVariables false
set_option linter.unusedSimpArgs false
set_option maxRecDepth 100000
/-- rows of rows of bytes of a call's own -/
abbrev OwnRB (W : World) (base : Nat) (v : Value) (l : List (Value × List Nat)) : Prop := W.ownsRow base 34 1 v l.length (flat bbC l)
theorem rbInfo : (Try.prog.info? 34).map (fun i => (i.zero, i.size, i.bytes)) = some (some (.slice none 0 0), 1, 24) := by kernel_rfl
theorem push_bd (W : World) (base : Nat) (v : Value) (l : List (Value × List Nat)) (x : Value × List Nat) (hx : ∃ a n c, x.1 = .slice a n c) (h : OwnRB W base v l) (hl : l.length ≤ 1000000) (hb : base ≤ W.heap.size) :
    ∃ (a' : Option Addr) (n' c' : Nat) (w2 : World), (Builtin.append_ #[47, 47] 47 #[v, .slice (some ⟨W.heap.size, 0, none⟩) 1 1]).run Try.prog (W.alloc (.cells #[x.1] 34)) = .ok (.slice a' n' c') w2 ∧ OwnRB w2 base (.slice a' n' c') (l ++ [x]) ∧ (W.alloc (.cells #[x.1] 34)).grownBy w2 v.ownBlock := by
  obtain ⟨i0, hi0, hz0, hz1, hz2⟩ := info_partsR rbInfo
  obtain ⟨xa, xn, xc, hx⟩ := hx
  exact push_k bbC_len (by decide) Try.underlying47 hi0 hz0 hz1 hz2 rfl (by decide) W base v l x (fun u hu => by simp [bbC] at hu; rw [hu, hx]; rfl) h hl hb
theorem OwnVn.grow {W W1 w2 : World} {base base2 : Nat} {e : TypeId} {sz n : Nat} {v : Value} {xs : List Value} {U : Vn} (ho : W.ownsRow base e sz v n xs) (hal : Below W.heap.size W W1) (hg : W1.grownBy w2 v.ownBlock) (h : OwnVn W base2 U) (h1 : e ≠ 78) (h2 : e ≠ 87) : OwnVn w2 base2 U :=
  ⟨fun n hn => ⟨grow_row ho hal hg (h.own n hn).1 h1, fun r hr => grow_row ho hal hg ((h.own n hn).2 r hr) h2⟩, h.apart⟩
def Bk (w W : World) (p : Value × List Nat) : Prop := OwnBs W w.heap.size p.1 p.2 ∧ (∀ x ∈ p.2, x < 256) ∧ p.2.length ≤ 100000
theorem encR_bk {w W : World} {base : Nat} {v : Value} {r : Rc} (h : recOk r = true) (ho : OwnBs W base v (encR r)) (hb : w.heap.size ≤ base) : Bk w W (v, encR r) :=
  ⟨own_mono ho hb, encR_lt (recOk_is h), by have := encR_le (recOk_is h); dsimp only; omega⟩
structure RpI (w : World) (sb vb : Nat) (U : Vn) (q : Int) (vg : Value) (lg : List Int) (Vv : Vn) (bs : List (Value × List Nat)) (av : Value) (W : World) : Prop where
  sv : SvI w sb U q vg lg W
  vk : W.heap[vb]? = some (.cells #[Vv.v 0, Vv.v 1, Vv.v 2, Vv.v 3] 61 (0, 0))
  vo : OwnVn W w.heap.size Vv
  ve : LvE (lvOf Vv.l) (lvOf U.l)
  ob : OwnRB W w.heap.size av bs
  oe : ∀ p ∈ bs, Bk w W p
  rp : ∃ L, replP Sp.nil (bs.map (·.2)) = some ⟨L, q, lg⟩ ∧ LvE L (lvOf U.l)
section
variable {w W X : World} {sb vb : Nat} {U : Vn} {q : Int} {vg : Value} {lg : List Int} {Vv : Vn} {bs : List (Value × List Nat)} {av : Value}
theorem RpI.below (h : RpI w sb vb U q vg lg Vv bs av W) (hb : Below W.heap.size W X) : RpI w sb vb U q vg lg Vv bs av X :=
  ⟨h.sv.below hb, blk_bels hb h.vk, h.vo.below hb, h.ve, own_below h.ob hb, fun p hp => ⟨own_below (h.oe p hp).1 hb, (h.oe p hp).2⟩, h.rp⟩
theorem RpI.vok (h : RpI w sb vb U q vg lg Vv bs av W) : verOk Vv.l = true := by
  rw [verOk_lv, verOkP_congr h.ve, ← verOk_lv]; exact h.sv.ok
theorem RpI.vsm (h : RpI w sb vb U q vg lg Vv bs av W) : (tabs Vv.l 4).length ≤ 100000 ∧ ∀ p ∈ tabs Vv.l 4, p.2.1.refs.length ≤ 1000000 := by
  obtain ⟨h1, h2⟩ := ver_small h.vok
  exact ⟨by omega, fun p hp => by have := h2 p hp; omega⟩
theorem RpI.isBB (h : RpI w sb vb U q vg lg Vv bs av W) : IsBB W av bs :=
  ⟨isSl_own bbC_len h.ob, fun p hp => ⟨isSl_own byteC_len (h.oe p hp).1, (h.oe p hp).2⟩⟩
theorem set4_blk {V : World} {b : Nat} {t : TypeId} {a0 a1 a2 a3 : Value} (h : V.heap[b]? = some (.cells #[a0, a1, a2, a3] t (0, 0))) (x0 x1 x2 x3 : Value) :
    ((((V.setCell ⟨b, 0, none⟩ x0).setCell ⟨b, 1, none⟩ x1).setCell ⟨b, 2, none⟩ x2).setCell ⟨b, 3, none⟩ x3).heap[b]? = some (.cells #[x0, x1, x2, x3] t (0, 0)) := by
  rw [blk_setCellR (blk_setCellR (blk_setCellR (blk_setCellR h)))]; rfl
theorem set4_other (V : World) (b : Nat) (x0 x1 x2 x3 : Value) (k : Nat) (hk : k ≠ b) :
    ((((V.setCell ⟨b, 0, none⟩ x0).setCell ⟨b, 1, none⟩ x1).setCell ⟨b, 2, none⟩ x2).setCell ⟨b, 3, none⟩ x3).heap[k]? = V.heap[k]? :=
  (Below.heap_setCell _ ⟨b, 3, none⟩ x3 k hk).trans ((Below.heap_setCell _ ⟨b, 2, none⟩ x2 k hk).trans ((Below.heap_setCell _ ⟨b, 1, none⟩ x1 k hk).trans (Below.heap_setCell _ ⟨b, 0, none⟩ x0 k hk)))
theorem set4_bel {B : Nat} {V0 V : World} (h : Below B V0 V) {b : Nat} (hb : B ≤ b) (x0 x1 x2 x3 : Value) :
    Below B V0 ((((V.setCell ⟨b, 0, none⟩ x0).setCell ⟨b, 1, none⟩ x1).setCell ⟨b, 2, none⟩ x2).setCell ⟨b, 3, none⟩ x3) :=
  (((h.setCell (p := ⟨b, 0, none⟩) hb x0).setCell (p := ⟨b, 1, none⟩) hb x1).setCell (p := ⟨b, 2, none⟩) hb x2).setCell (p := ⟨b, 3, none⟩) hb x3
/-- all but what the version's block holds -/
structure RpS (w : World) (sb vb : Nat) (U : Vn) (q : Int) (vg : Value) (lg : List Int) (bs : List (Value × List Nat)) (av : Value) (W : World) : Prop where
  sv : SvI w sb U q vg lg W
  vk : ∃ a0 a1 a2 a3, W.heap[vb]? = some (.cells #[a0, a1, a2, a3] 61 (0, 0))
  ob : OwnRB W w.heap.size av bs
  oe : ∀ p ∈ bs, Bk w W p
  rp : ∃ L, replP Sp.nil (bs.map (·.2)) = some ⟨L, q, lg⟩ ∧ LvE L (lvOf U.l)
theorem RpS.below (h : RpS w sb vb U q vg lg bs av W) (hb : Below W.heap.size W X) : RpS w sb vb U q vg lg bs av X := by
  obtain ⟨a0, a1, a2, a3, hv⟩ := h.vk
  exact ⟨h.sv.below hb, ⟨a0, a1, a2, a3, blk_bels hb hv⟩, own_below h.ob hb, fun p hp => ⟨own_below (h.oe p hp).1 hb, (h.oe p hp).2⟩, h.rp⟩
theorem RpI.s (h : RpI w sb vb U q vg lg Vv bs av W) : RpS w sb vb U q vg lg bs av W := ⟨h.sv, ⟨_, _, _, _, h.vk⟩, h.ob, h.oe, h.rp⟩
/-- the version's block gets other cells -/
theorem RpS.set (h : RpS w sb vb U q vg lg bs av W) (hne : sb ≠ vb) (hvb : w.heap.size ≤ vb) (y0 y1 y2 y3 : Value) : RpS w sb vb U q vg lg bs av ((((W.setCell ⟨vb, 0, none⟩ y0).setCell ⟨vb, 1, none⟩ y1).setCell ⟨vb, 2, none⟩ y2).setCell ⟨vb, 3, none⟩ y3) := by
  obtain ⟨a0, a1, a2, a3, hv⟩ := h.vk
  have hk := fun k hk => set4_other W vb y0 y1 y2 y3 k hk
  exact ⟨h.sv.other hv hne (by decide) (by decide) (by decide) hk (set4_bel h.sv.bw hvb _ _ _ _), ⟨_, _, _, _, set4_blk hv y0 y1 y2 y3⟩, own_other h.ob hv (by decide) hk, fun p hp => ⟨own_other (h.oe p hp).1 hv (by decide) hk, (h.oe p hp).2⟩, h.rp⟩
/-- and holds the state's own version -/
theorem RpS.back (h : RpS w sb vb U q vg lg bs av W) (hne : sb ≠ vb) (hvb : w.heap.size ≤ vb) {y0 y1 y2 y3 : Value} (e0 : U.v 0 = y0) (e1 : U.v 1 = y1) (e2 : U.v 2 = y2) (e3 : U.v 3 = y3) : RpI w sb vb U q vg lg U bs av ((((W.setCell ⟨vb, 0, none⟩ y0).setCell ⟨vb, 1, none⟩ y1).setCell ⟨vb, 2, none⟩ y2).setCell ⟨vb, 3, none⟩ y3) := by
  subst e0 e1 e2 e3
  have h2 := h.set hne hvb (U.v 0) (U.v 1) (U.v 2) (U.v 3)
  obtain ⟨a0, a1, a2, a3, hv⟩ := h.vk
  exact ⟨h2.sv, set4_blk hv _ _ _ _, h2.sv.own, LvE.refl _, h2.ob, h2.oe, h2.rp⟩
/-- what else there is stays at that -/
theorem RpS.oth (h : RpS w sb vb U q vg lg bs av W) (y0 y1 y2 y3 : Value) : ((((W.setCell ⟨vb, 0, none⟩ y0).setCell ⟨vb, 1, none⟩ y1).setCell ⟨vb, 2, none⟩ y2).setCell ⟨vb, 3, none⟩ y3).heap[vb]? = some (.cells #[y0, y1, y2, y3] 61 (0, 0)) ∧
    (∀ U1, OwnVn W w.heap.size U1 → OwnVn ((((W.setCell ⟨vb, 0, none⟩ y0).setCell ⟨vb, 1, none⟩ y1).setCell ⟨vb, 2, none⟩ y2).setCell ⟨vb, 3, none⟩ y3) w.heap.size U1) ∧
    (∀ v2 l2, OwnZ W w.heap.size v2 l2 → OwnZ ((((W.setCell ⟨vb, 0, none⟩ y0).setCell ⟨vb, 1, none⟩ y1).setCell ⟨vb, 2, none⟩ y2).setCell ⟨vb, 3, none⟩ y3) w.heap.size v2 l2) ∧
    ∀ k, k ≠ vb → ((((W.setCell ⟨vb, 0, none⟩ y0).setCell ⟨vb, 1, none⟩ y1).setCell ⟨vb, 2, none⟩ y2).setCell ⟨vb, 3, none⟩ y3).heap[k]? = W.heap[k]? := by
  obtain ⟨a0, a1, a2, a3, hv⟩ := h.vk
  have hk := fun k hk => set4_other W vb y0 y1 y2 y3 k hk
  exact ⟨set4_blk hv y0 y1 y2 y3, fun U1 ho1 => ho1.other hv (by decide) (by decide) hk, fun v2 l2 hz => own_other hz hv (by decide) hk, hk⟩
/-- the state is the next one now; its version's block holds the version already -/
theorem RpS.next (h : RpS w sb vb U q vg lg bs av W) (hne : sb ≠ vb) (hsb : w.heap.size ≤ sb) {U1 U2 : Vn} {q2 : Int} {vg2 : Value} {lg2 : List Int} (hv : W.heap[vb]? = some (.cells #[U1.v 0, U1.v 1, U1.v 2, U1.v 3] 61 (0, 0))) (ho1 : OwnVn W w.heap.size U1) (ho2 : OwnVn W w.heap.size U2) (hz : OwnZ W w.heap.size vg2 lg2) (hk2 : verOk U2.l = true) (ht : stOk q2 lg2 = true)
    {y0 y1 y2 y3 : Value} (e0 : U2.v 0 = y0) (e1 : U2.v 1 = y1) (e2 : U2.v 2 = y2) (e3 : U2.v 3 = y3) :
    SvI w sb U2 q2 vg2 lg2 ((((((W.setCell ⟨sb, 0, none⟩ y0).setCell ⟨sb, 1, none⟩ y1).setCell ⟨sb, 2, none⟩ y2).setCell ⟨sb, 3, none⟩ y3).setCell ⟨sb, 4, none⟩ (.int .i64 q2)).setCell ⟨sb, 5, none⟩ vg2) ∧
    ((((((W.setCell ⟨sb, 0, none⟩ y0).setCell ⟨sb, 1, none⟩ y1).setCell ⟨sb, 2, none⟩ y2).setCell ⟨sb, 3, none⟩ y3).setCell ⟨sb, 4, none⟩ (.int .i64 q2)).setCell ⟨sb, 5, none⟩ vg2).heap[vb]? = some (.cells #[U1.v 0, U1.v 1, U1.v 2, U1.v 3] 61 (0, 0)) ∧
    OwnVn ((((((W.setCell ⟨sb, 0, none⟩ y0).setCell ⟨sb, 1, none⟩ y1).setCell ⟨sb, 2, none⟩ y2).setCell ⟨sb, 3, none⟩ y3).setCell ⟨sb, 4, none⟩ (.int .i64 q2)).setCell ⟨sb, 5, none⟩ vg2) w.heap.size U1 ∧
    OwnRB ((((((W.setCell ⟨sb, 0, none⟩ y0).setCell ⟨sb, 1, none⟩ y1).setCell ⟨sb, 2, none⟩ y2).setCell ⟨sb, 3, none⟩ y3).setCell ⟨sb, 4, none⟩ (.int .i64 q2)).setCell ⟨sb, 5, none⟩ vg2) w.heap.size av bs ∧
    ∀ p, Bk w W p → Bk w ((((((W.setCell ⟨sb, 0, none⟩ y0).setCell ⟨sb, 1, none⟩ y1).setCell ⟨sb, 2, none⟩ y2).setCell ⟨sb, 3, none⟩ y3).setCell ⟨sb, 4, none⟩ (.int .i64 q2)).setCell ⟨sb, 5, none⟩ vg2) p := by
  have hk := fun k hk => set6_oth W sb y0 y1 y2 y3 (.int .i64 q2) vg2 k hk
  exact ⟨h.sv.turn hsb ho2 hz hk2 ht e0 e1 e2 e3, (hk vb (Ne.symm hne)).trans hv, ho1.other h.sv.blk (by decide) (by decide) hk, own_other h.ob h.sv.blk (by decide) hk, fun p hp => ⟨own_other hp.1 h.sv.blk (by decide) hk, hp.2⟩⟩
end
theorem SvI.grow {w W W1 w2 : World} {sb : Nat} {U : Vn} {q : Int} {vg av : Value} {lg : List Int} {bs : List (Value × List Nat)} (h : SvI w sb U q vg lg W) (hob : OwnRB W w.heap.size av bs) (hal : Below W.heap.size W W1) (hg : W1.grownBy w2 av.ownBlock) : SvI w sb U q vg lg w2 :=
  ⟨grow_at hob hal hg h.blk (by decide), OwnVn.grow hob hal hg h.own (by decide) (by decide), grow_row hob hal hg h.lgs (by decide), h.ok, h.st, (h.bw.trans (hal.mono h.bw.size)).grown hg (h.bw.trans (hal.mono h.bw.size)).size (fun k hk => (World.ownsRow.lt hob k hk).1)⟩
/-- a row of bytes more -/
theorem RpI.push {w W W1 w2 : World} {sb vb : Nat} {U : Vn} {q : Int} {vg : Value} {lg : List Int} {Vv : Vn} {bs : List (Value × List Nat)} {av av' : Value} {x : Value × List Nat} (h : SvI w sb U q vg lg W) (hv : W.heap[vb]? = some (.cells #[Vv.v 0, Vv.v 1, Vv.v 2, Vv.v 3] 61 (0, 0))) (ho : OwnVn W w.heap.size Vv) (he : LvE (lvOf Vv.l) (lvOf U.l)) (hob : OwnRB W w.heap.size av bs) (hoe : ∀ p ∈ bs, Bk w W p) (hx : Bk w W x) (hal : Below W.heap.size W W1) (hg : W1.grownBy w2 av.ownBlock) (ho2 : OwnRB w2 w.heap.size av' (bs ++ [x])) (hr : ∃ L, replP Sp.nil ((bs ++ [x]).map (·.2)) = some ⟨L, q, lg⟩ ∧ LvE L (lvOf U.l)) : RpI w sb vb U q vg lg Vv (bs ++ [x]) av' w2 :=
  ⟨h.grow hob hal hg, grow_at hob hal hg hv (by decide), OwnVn.grow hob hal hg ho (by decide) (by decide), he, ho2, fun p hp => by
    rcases List.mem_append.1 hp with hp | hp
    · exact ⟨grow_row hob hal hg (hoe p hp).1 (by decide), (hoe p hp).2⟩
    · obtain rfl := List.mem_singleton.1 hp
      exact ⟨grow_row hob hal hg hx.1 (by decide), hx.2⟩, hr⟩
theorem replP_one (s : Sp) (b : List Nat) : replP s [b] = stepR s b := by
  show (stepR s b).bind (fun s' => replP s' []) = _
  cases stepR s b <;> rfl
/-- a right record more: the replay leads on -/
theorem replP_more {bs : List (Value × List Nat)} {L LU : Lv} {q : Int} {lg : List Int} (h : replP Sp.nil (bs.map (·.2)) = some ⟨L, q, lg⟩) (hl : LvE L LU) {r : Rc} (hr : recOk r = true) {A : Lv} (ha : applyP (if r.wh then lvOf Vn.none.l else LU) r.drop (psM r.add) = some A) (v : Value) :
    ∃ L', replP Sp.nil ((bs ++ [(v, encR r)]).map (·.2)) = some ⟨L', r.seq, r.logs⟩ ∧ LvE L' A := by
  have hl2 : LvE (if r.wh then lvOf Vn.none.l else L) (if r.wh then lvOf Vn.none.l else LU) := by
    cases r.wh
    · exact hl
    · exact LvE.refl _
  obtain ⟨B, hB, hBA⟩ := applyP_some hl2 ha
  refine ⟨B, ?_, hBA⟩
  have e1 : [(v, encR r)].map (·.2) = [encR r] := rfl
  have e2 := stepR_enc hr ⟨L, q, lg⟩
  rw [List.map_append, replP_app, h, Option.bind_some, e1, replP_one, e2]
  show (applyP (if r.wh then lvOf Vn.none.l else L) r.drop (psM r.add)).map _ = _
  rw [hB]
  rfl
theorem at_drew {W : World} {k : Nat} {x : Option Obj} (h : W.heap[k]? = x) : W.drew.heap[k]? = x := h
theorem of_drew {W : World} {k : Nat} {x : Option Obj} (h : W.drew.heap[k]? = x) : W.heap[k]? = x := h
theorem rp_row {w : World} {b off : Nat} {l : List Rv} (h : ∀ i x, l[i]? = some x → ∀ j y, (rcC x)[j]? = some y → w.cell? ⟨b, off + i * 5 + j, none⟩ = some y) {i : Nat} {x : Rv} (hx : l[i]? = some x) :
    w.cell? ⟨b, off + i * 5, none⟩ = some (.bool x.wh) ∧ w.cell? ⟨b, off + i * 5 + 1, none⟩ = some (.int .i64 x.s) ∧ w.cell? ⟨b, off + i * 5 + 2, none⟩ = some x.vl ∧ w.cell? ⟨b, off + i * 5 + 3, none⟩ = some x.va ∧ w.cell? ⟨b, off + i * 5 + 4, none⟩ = some x.vd :=
  ⟨h i x hx 0 _ rfl, h i x hx 1 _ rfl, h i x hx 2 _ rfl, h i x hx 3 _ rfl, h i x hx 4 _ rfl⟩
attribute [local go_sem] Oper.semAt_some
set_option maxHeartbeats 25600000 in
theorem manifestReplays_walk (v0 : Value) (l : List Rv) (w : World) (h0 : IsRc w v0 l) :
    Calls Try.prog 7 #[v0] w fun e w' => e = .returned (.bool true) ∧ Below w.heap.size w w' := by
  obtain ⟨a0, c0, rfl, -, -, -⟩ := id h0.1
  obtain ⟨n0, hn0⟩ : ∃ q, q = l.length := ⟨_, rfl⟩
  obtain ⟨-, -, -, hx0⟩ := h0.1.at
  rw [← hn0] at hx0 ⊢
  have Hx0 := Lib.hid hx0
  have Hrin := Lib.hid h0.2
  have Hn0 := Lib.hid hn0
  have Haw := Lib.hid (fun X => awake16_any X)
  clear h0 hx0 hn0
  go_enter Try.func7, Try.ntmps7
  by_cases hbig : 25 < n0
  · have hd1 : decide ((25 : Int) < (n0 : Int)) = true := decide_eq_true (by omega)
    have hd2 : decide ((n0 : Int) > 25) = true := decide_eq_true (by omega)
    go_wp2_with fail
    refine (Haw.out _).mono ?_
    rintro e w2 ⟨rfl, hb2⟩
    have Hb2 := Lib.hid hb2
    clear hb2
    go_wp2_with fail
    go_ret
    exact ⟨rfl, Hb2.out⟩
  have hd1 : decide ((25 : Int) < (n0 : Int)) = false := decide_eq_false (by omega)
  have hd2 : decide ((n0 : Int) > 25) = false := decide_eq_false (by omega)
  have hA : Below w.heap.size w (w.alloc (.cells #[.slice none 0 0, .slice none 0 0, .slice none 0 0, .slice none 0 0] 61)) := (Below.refl _ _).alloc (Nat.le_refl _) _
  have hA2 : Below (w.alloc (.cells #[.slice none 0 0, .slice none 0 0, .slice none 0 0, .slice none 0 0] 61)).heap.size (w.alloc (.cells #[.slice none 0 0, .slice none 0 0, .slice none 0 0, .slice none 0 0] 61)) ((w.alloc (.cells #[.slice none 0 0, .slice none 0 0, .slice none 0 0, .slice none 0 0] 61)).alloc (.cells #[.slice none 0 0, .slice none 0 0, .slice none 0 0, .slice none 0 0, .int .i64 0, .slice none 0 0] 63)) := (Below.refl _ _).alloc (Nat.le_refl _) _
  have hkv := blk_bels hA2 (blk_of_alloc w (.cells #[.slice none 0 0, .slice none 0 0, .slice none 0 0, .slice none 0 0] 61))
  have hks := blk_of_alloc (w.alloc (.cells #[.slice none 0 0, .slice none 0 0, .slice none 0 0, .slice none 0 0] 61)) (.cells #[.slice none 0 0, .slice none 0 0, .slice none 0 0, .slice none 0 0, .int .i64 0, .slice none 0 0] 63)
  rw [World.size_alloc] at hks
  have HI0 : Hid (RpI w (w.heap.size + 1) w.heap.size Vn.none 0 (.slice none 0 0) [] Vn.none [] (.slice none 0 0) ((w.alloc (.cells #[.slice none 0 0, .slice none 0 0, .slice none 0 0, .slice none 0 0] 61)).alloc (.cells #[.slice none 0 0, .slice none 0 0, .slice none 0 0, .slice none 0 0, .int .i64 0, .slice none 0 0] 63))) := Lib.hid ⟨svI_new hA hA2 hks, hkv, ownVn_none _ _, LvE.refl _, World.ownsRow_nil _ _ _ _, fun p hp => (by cases hp), ⟨_, rfl, LvE.refl _⟩⟩
  obtain ⟨sb, hsb⟩ : ∃ q, q = w.heap.size + 1 := ⟨_, rfl⟩
  obtain ⟨vb, hvb⟩ : ∃ q, q = w.heap.size := ⟨_, rfl⟩
  have Hne : Hid (sb ≠ vb ∧ w.heap.size ≤ sb ∧ w.heap.size ≤ vb) := Lib.hid (by omega)
  have HI0 := Lib.hid (show RpI w sb vb Vn.none 0 (.slice none 0 0) [] Vn.none [] (.slice none 0 0) ((w.alloc (.cells #[.slice none 0 0, .slice none 0 0, .slice none 0 0, .slice none 0 0] 61)).alloc (.cells #[.slice none 0 0, .slice none 0 0, .slice none 0 0, .slice none 0 0, .int .i64 0, .slice none 0 0] 63)) from (by rw [hsb, hvb]; exact HI0.out))
  have Hsbe := Lib.hid hsb
  have Hvbe := Lib.hid hvb
  clear hA hA2 hkv hks hsb hvb
  go_upto_region 6 with fail
  rw [← Hsbe.out, ← Hvbe.out]
  generalize (w.alloc (.cells #[.slice none 0 0, .slice none 0 0, .slice none 0 0, .slice none 0 0] 61)).alloc (.cells #[.slice none 0 0, .slice none 0 0, .slice none 0 0, .slice none 0 0, .int .i64 0, .slice none 0 0] 63) = W2 at *
  clear hd1 hd2
  go_wp2_with fail
  go_loopw [3, 30] (fun av iv wr => ∃ (k : Nat) (U : Vn) (q : Int) (vg : Value) (lg : List Int) (Vv : Vn) (bs : List (Value × List Nat)), k ≤ n0 ∧ iv = .int .i64 k ∧ bs.length ≤ k ∧ RpI w sb vb U q vg lg Vv bs av wr) (fun _ i _ => n0 - (intOf i).toNat)
  case atStart => exact ⟨0, _, _, _, _, _, _, Nat.zero_le _, rfl, Nat.le_refl _, HI0.out⟩
  case round =>
    obtain ⟨k, U, q, vg, lg, Vv, bs, hk, rfl, hbl, hi⟩ := hrel
    obtain ⟨wo, rfl⟩ : ∃ wo : World, wo = wr := ⟨_, rfl⟩
    obtain ⟨u0, m0, k0, u1, m1, k1, u2, m2, k2, u3, m3, k3, e0, e1, e2, e3⟩ := vn_slices hi.sv.own
    obtain ⟨gn, hg⟩ : ∃ q, q = lg.length := ⟨_, rfl⟩
    have hgz := hi.sv.lgs
    rw [OwnZ, ← hg] at hgz
    obtain ⟨ga, gc, rfl⟩ := own_slice hgz
    clear hgz hg
    obtain ⟨yu0, ym0, yk0, yu1, ym1, yk1, yu2, ym2, yk2, yu3, ym3, yk3, ye0, ye1, ye2, ye3⟩ := vn_slices hi.vo
    obtain ⟨pn, hpn⟩ : ∃ q, q = bs.length := ⟨_, rfl⟩
    have hob := hi.ob
    rw [OwnRB, ← hpn] at hob
    obtain ⟨pa, pc, rfl⟩ := own_slice hob
    have Hpn := Lib.hid hpn
    have Hi := Lib.hid hi
    have Hbl := Lib.hid hbl
    clear hi hbl hob hpn HI0
    by_cases hkn : k < n0
    · have hlt : (k : Int) < (n0 : Int) := by omega
      have hn25 : n0 ≤ 25 := by omega
      obtain ⟨b, off, rfl, hcell⟩ := Hx0.out (by omega)
      obtain ⟨⟨rwh, rs, rvl, rva, rvd, rls, rad, rdr⟩, hr⟩ : ∃ z, l[k]? = some z := ⟨_, List.getElem?_eq_getElem (by rw [← Hn0.out]; exact hkn)⟩
      obtain ⟨d1, d2, d3, d4, d5⟩ := rp_row (w := wo) (fun i x hi j y hj => (Hi.out.sv.bw.cell (block_lt_of_cell (hcell i x hi j y hj))).trans (hcell i x hi j y hj)) hr
      have hin := Hrin.out _ (List.mem_of_getElem? hr)
      unfold RcIn at hin
      dsimp only at d1 d2 d3 d4 d5 hin
      obtain ⟨i1, i2, i3⟩ := hin
      obtain ⟨rla, rlc, rfl, -, -, -⟩ := id i1
      obtain ⟨rda, rdc, rfl, -, -, -⟩ := id i2
      obtain ⟨raa, rac, rfl, -, -, -⟩ := id i3.1
      obtain ⟨rnl, hrnl⟩ : ∃ q, q = rls.length := ⟨_, rfl⟩
      obtain ⟨rnd, hrnd⟩ : ∃ q, q = rdr.length := ⟨_, rfl⟩
      obtain ⟨rna, hrna⟩ : ∃ q, q = rad.length := ⟨_, rfl⟩
      rw [← hrnl] at i1 d3
      rw [← hrnd] at i2 d5
      rw [← hrna] at i3 d4
      have HrL := Lib.hid i1
      have HrD := Lib.hid i2
      have HrP := Lib.hid i3
      have hA : Below wo.heap.size wo (wo.alloc (.cells #[.bool rwh, .int .i64 rs, .slice rla rnl rlc, .slice raa rna rac, .slice rda rnd rdc] 27)) := (Below.refl _ _).alloc (Nat.le_refl _) _
      have HKr := Lib.hid (blk_of_alloc wo (.cells #[.bool rwh, .int .i64 rs, .slice rla rnl rlc, .slice raa rna rac, .slice rda rnd rdc] 27))
      have HI1 := Lib.hid (Hi.out.below hA)
      obtain ⟨rb, hrb⟩ : ∃ q, q = wo.heap.size := ⟨_, rfl⟩
      rw [← hrb] at HKr
      have Hrbe := Lib.hid hrb
      have Hrn : Hid (rb ≠ sb ∧ rb ≠ vb) := Lib.hid (by have h1 := blk_lt Hi.out.sv.blk; have h2 := blk_lt Hi.out.vk; omega)
      obtain ⟨rsm, hrsm⟩ : ∃ q, q = smallR rls rad rdr := ⟨_, rfl⟩
      have Hrsm := Lib.hid hrsm
      clear hr hcell i1 i2 i3 hrnl hrnd hrna hA hrb hrsm Hi
      go_upto_region 9 with fail
      rw [← Hrbe.out]
      generalize wo.alloc (.cells #[.bool rwh, .int .i64 rs, .slice rla rnl rlc, .slice raa rna rac, .slice rda rnd rdc] 27) = W3 at *
      clear d1 d2 d3 d4 d5
      have hs2 := small16_any rwh rs _ _ _ rls rad rdr W3 (HrL.out.below HI1.out.sv.bw) (HrD.out.below HI1.out.sv.bw) (pl_bel HrP.out HI1.out.sv.bw)
      rw [← Hrsm.out] at hs2
      have Hs2 := Lib.hid hs2
      clear hs2
      have b0 : W3.cell? ⟨rb, 0, none⟩ = some (.bool rwh) := by rw [cell_blkR HKr.out]; rfl
      have b1 : W3.cell? ⟨rb, 1, none⟩ = some (.int .i64 rs) := by rw [cell_blkR HKr.out]; rfl
      have b2 : W3.cell? ⟨rb, 2, none⟩ = some (.slice rla rnl rlc) := by rw [cell_blkR HKr.out]; rfl
      have b3 : W3.cell? ⟨rb, 3, none⟩ = some (.slice raa rna rac) := by rw [cell_blkR HKr.out]; rfl
      have b4 : W3.cell? ⟨rb, 4, none⟩ = some (.slice rda rnd rdc) := by rw [cell_blkR HKr.out]; rfl
      go_wp2_with fail
      refine Hs2.out.mono ?_
      rintro e w4 ⟨rfl, hb4⟩
      have HI4 := Lib.hid (HI1.out.below hb4)
      have HKr4 := Lib.hid (blk_bels hb4 HKr.out)
      clear hb4 Hs2 HI1 HKr b0 b1 b2 b3 b4
      cases rsm
      · skip
        go_wp2_with fail
        refine (Haw.out _).mono ?_
        rintro e wz ⟨rfl, hbz⟩
        have Hbz := Lib.hid (HI4.out.sv.bw.trans (hbz.mono HI4.out.sv.bw.size))
        clear hbz
        go_wp2_with fail
        go_ret
        exact ⟨rfl, Hbz.out⟩
      have Hrb := Lib.hid (smallR_is Hrsm.out.symm)
      clear Hrsm
      have hby := recbytes_any rwh rs _ _ _ rls rad rdr w4 (HrL.out.below HI4.out.sv.bw) (HrD.out.below HI4.out.sv.bw) (pl_bel HrP.out HI4.out.sv.bw) (by have := Hrb.out.2.2.1; omega) (fun p hp => by have := (Hrb.out.1 p hp).1; omega)
      have Hby := Lib.hid hby
      clear hby
      have b0 : w4.cell? ⟨rb, 0, none⟩ = some (.bool rwh) := by rw [cell_blkR HKr4.out]; rfl
      have b1 : w4.cell? ⟨rb, 1, none⟩ = some (.int .i64 rs) := by rw [cell_blkR HKr4.out]; rfl
      have b2 : w4.cell? ⟨rb, 2, none⟩ = some (.slice rla rnl rlc) := by rw [cell_blkR HKr4.out]; rfl
      have b3 : w4.cell? ⟨rb, 3, none⟩ = some (.slice raa rna rac) := by rw [cell_blkR HKr4.out]; rfl
      have b4 : w4.cell? ⟨rb, 4, none⟩ = some (.slice rda rnd rdc) := by rw [cell_blkR HKr4.out]; rfl
      go_wp2_with fail
      refine Hby.out.mono ?_
      rintro e w5 ⟨hcase, hb5⟩
      have HI5 := Lib.hid (HI4.out.below hb5)
      have HKr5 := Lib.hid (blk_bels hb5 HKr4.out)
      clear hb5 Hby HKr4 b0 b1 b2 b3 b4
      rcases hcase with ⟨hno, rfl⟩ | ⟨hok, vbk, rfl, hbk⟩
      · skip
        have hap := sapply_any U q (.slice ga gn gc) ⟨_, _, _, rfl⟩ rwh rs _ _ _ rls rad rdr w5 HI5.out.sv.own.isVn HI5.out.sv.ok HI5.out.sv.small.1 HI5.out.sv.small.2 (HrL.out.below HI5.out.sv.bw) (HrD.out.below HI5.out.sv.bw) (pl_bel HrP.out HI5.out.sv.bw) (by have := Hrb.out.2.2.1; omega) (fun p hp => by have := (Hrb.out.1 p hp).1; omega)
        have hblk := HI5.out.sv.blk
        rw [e0, e1, e2, e3] at hap hblk
        have Hap := Lib.hid hap
        have s0 : w5.cell? ⟨sb, 0, none⟩ = some (.slice u0 m0 k0) := by rw [cell_blkR hblk]; rfl
        have s1 : w5.cell? ⟨sb, 1, none⟩ = some (.slice u1 m1 k1) := by rw [cell_blkR hblk]; rfl
        have s2 : w5.cell? ⟨sb, 2, none⟩ = some (.slice u2 m2 k2) := by rw [cell_blkR hblk]; rfl
        have s3 : w5.cell? ⟨sb, 3, none⟩ = some (.slice u3 m3 k3) := by rw [cell_blkR hblk]; rfl
        have s4 : w5.cell? ⟨sb, 4, none⟩ = some (.int .i64 q) := by rw [cell_blkR hblk]; rfl
        have s5 : w5.cell? ⟨sb, 5, none⟩ = some (.slice ga gn gc) := by rw [cell_blkR hblk]; rfl
        have b0 : w5.cell? ⟨rb, 0, none⟩ = some (.bool rwh) := by rw [cell_blkR HKr5.out]; rfl
        have b1 : w5.cell? ⟨rb, 1, none⟩ = some (.int .i64 rs) := by rw [cell_blkR HKr5.out]; rfl
        have b2 : w5.cell? ⟨rb, 2, none⟩ = some (.slice rla rnl rlc) := by rw [cell_blkR HKr5.out]; rfl
        have b3 : w5.cell? ⟨rb, 3, none⟩ = some (.slice raa rna rac) := by rw [cell_blkR HKr5.out]; rfl
        have b4 : w5.cell? ⟨rb, 4, none⟩ = some (.slice rda rnd rdc) := by rw [cell_blkR HKr5.out]; rfl
        clear hap hblk
        go_wp2_with fail
        refine Hap.out.mono ?_
        rintro e w6 hout
        obtain ⟨hb6, hc⟩ := stOut_two hout
        rcases hc with ⟨c, -, -, -, hcf, -, rfl⟩ | ⟨_, _, _, hrk, -⟩
        rotate_left
        · rw [hno] at hrk; cases hrk
        obtain rfl : c = 20 := hcf hno
        have HI6 := Lib.hid (HI5.out.below hb6)
        have hA : Below w6.heap.size w6 (w6.alloc (.cells #[.slice none 0 0, .slice none 0 0, .slice none 0 0, .slice none 0 0, .int .i64 0, .slice none 0 0] 63)) := (Below.refl _ _).alloc (Nat.le_refl _) _
        have HI7 := Lib.hid (HI6.out.below hA)
        clear hout hb6 hcf hno hA HI6 HI5 HI4 HKr5 b0 b1 b2 b3 b4 s0 s1 s2 s3 s4 s5 Hap
        go_upto_region 14 with fail
        generalize w6.alloc (.cells #[.slice none 0 0, .slice none 0 0, .slice none 0 0, .slice none 0 0, .int .i64 0, .slice none 0 0] 63) = w7 at *
        go_wp2_with fail
        go_roundw
        case rel => exact ⟨k + 1, U, q, _, lg, Vv, bs, by omega, by go_num, by have := Hbl.out; omega, HI7.out⟩
        case measure => simp [intOf]; omega
      have Hok := Lib.hid hok
      obtain ⟨qn, hqn⟩ : ∃ z, z = (encR ⟨rwh, rs, rls, rad, rdr⟩).length := ⟨_, rfl⟩
      have hbk2 := hbk
      rw [OwnBs, ← hqn] at hbk2
      obtain ⟨qa, qc, rfl⟩ := own_slice hbk2
      have HBk := Lib.hid (encR_bk (w := w) hok hbk HI4.out.sv.bw.size)
      clear hok hqn hbk hbk2 HI4
      cases rwh
      · have HF := Lib.hid Hok.out
        have b0 : w5.cell? ⟨rb, 0, none⟩ = some (.bool false) := by rw [cell_blkR HKr5.out]; rfl
        have HS6 := HI5
        have HKr6 := HKr5
        have HBk6 := HBk
        have hvk := HI5.out.vk
        rw [ye0, ye1, ye2, ye3] at hvk
        have HKv6 := Lib.hid hvk
        obtain ⟨w6, rfl⟩ : ∃ z, z = w5 := ⟨_, rfl⟩
        clear HI5 HKr5 HBk hvk
        go_upto_region 18 with fail
        clear b0
        have hap := vapply_any Vv _ _ rad rdr w6 HS6.out.vo.isVn HS6.out.vok HS6.out.vsm.1 HS6.out.vsm.2 (pl_bel HrP.out HS6.out.sv.bw) (HrD.out.below HS6.out.sv.bw) (by have := Hrb.out.2.2.1; omega) (fun p hp => by have := (Hrb.out.1 p hp).1; omega)
        unfold Vn.cells at hap
        rw [ye0, ye1, ye2, ye3] at hap
        have Hva := Lib.hid hap
        clear hap
        have v0 : w6.cell? ⟨vb, 0, none⟩ = some (.slice yu0 ym0 yk0) := by rw [cell_blkR HKv6.out]; rfl
        have v1 : w6.cell? ⟨vb, 1, none⟩ = some (.slice yu1 ym1 yk1) := by rw [cell_blkR HKv6.out]; rfl
        have v2 : w6.cell? ⟨vb, 2, none⟩ = some (.slice yu2 ym2 yk2) := by rw [cell_blkR HKv6.out]; rfl
        have v3 : w6.cell? ⟨vb, 3, none⟩ = some (.slice yu3 ym3 yk3) := by rw [cell_blkR HKv6.out]; rfl
        have b3 : w6.cell? ⟨rb, 3, none⟩ = some (.slice raa rna rac) := by rw [cell_blkR HKr6.out]; rfl
        have b4 : w6.cell? ⟨rb, 4, none⟩ = some (.slice rda rnd rdc) := by rw [cell_blkR HKr6.out]; rfl
        go_wp2_with fail
        refine Hva.out.mono ?_
        rintro e w7 hout
        have hou := hout.out
        unfold ApOut at hou
        have Hap0 : Hid (∀ A, applyP (lvOf Vv.l) rdr (psM rad) = some A → ∃ B, applyP (lvOf U.l) rdr (psM rad) = some B ∧ LvE B A) := Lib.hid (fun A hA => applyP_some HS6.out.ve.symm hA)
        have Hap1 : Hid (applyP (lvOf Vv.l) rdr (psM rad) = none → applyP (lvOf U.l) rdr (psM rad) = none) := Lib.hid (fun hA => applyP_none HS6.out.ve.symm hA)
        cases happ : applyP (lvOf Vv.l) rdr (psM rad) with
        | none =>
          rw [happ] at hou
          obtain ⟨rfl, hb7⟩ := hou
          have hnone := Hap1.out happ
          unfold Vn.cells Vn.none
          have hA : Below w7.heap.size w7 (w7.alloc (.cells #[.slice none 0 0, .slice none 0 0, .slice none 0 0, .slice none 0 0] 61)) := (Below.refl _ _).alloc (Nat.le_refl _) _
          have HS8 := Lib.hid ((HS6.out.below hb7).below hA)
          have HKr8 := Lib.hid (blk_bels hA (blk_bels hb7 HKr6.out))
          have HKv8 := Lib.hid (blk_bels hA (blk_bels hb7 HKv6.out))
          have Hnone := Lib.hid hnone
          clear hout hb7 hA happ hnone Hap0 Hap1 Hva HS6 HKr6 HKv6 HBk6 v0 v1 v2 v3 b3 b4
          go_upto_region 19 with fail
          generalize w7.alloc (.cells #[.slice none 0 0, .slice none 0 0, .slice none 0 0, .slice none 0 0] 61) = w8 at *
          have hap := sapply_any U q (.slice ga gn gc) ⟨_, _, _, rfl⟩ false rs _ _ _ rls rad rdr w8 HS8.out.sv.own.isVn HS8.out.sv.ok HS8.out.sv.small.1 HS8.out.sv.small.2 (HrL.out.below HS8.out.sv.bw) (HrD.out.below HS8.out.sv.bw) (pl_bel HrP.out HS8.out.sv.bw) (by have := Hrb.out.2.2.1; omega) (fun p hp => by have := (Hrb.out.1 p hp).1; omega)
          have hblk := HS8.out.sv.blk
          rw [e0, e1, e2, e3] at hap hblk
          have Hap := Lib.hid hap
          have s0 : w8.cell? ⟨sb, 0, none⟩ = some (.slice u0 m0 k0) := by rw [cell_blkR hblk]; rfl
          have s1 : w8.cell? ⟨sb, 1, none⟩ = some (.slice u1 m1 k1) := by rw [cell_blkR hblk]; rfl
          have s2 : w8.cell? ⟨sb, 2, none⟩ = some (.slice u2 m2 k2) := by rw [cell_blkR hblk]; rfl
          have s3 : w8.cell? ⟨sb, 3, none⟩ = some (.slice u3 m3 k3) := by rw [cell_blkR hblk]; rfl
          have s4 : w8.cell? ⟨sb, 4, none⟩ = some (.int .i64 q) := by rw [cell_blkR hblk]; rfl
          have s5 : w8.cell? ⟨sb, 5, none⟩ = some (.slice ga gn gc) := by rw [cell_blkR hblk]; rfl
          have b0 : w8.cell? ⟨rb, 0, none⟩ = some (.bool false) := by rw [cell_blkR HKr8.out]; rfl
          have b1 : w8.cell? ⟨rb, 1, none⟩ = some (.int .i64 rs) := by rw [cell_blkR HKr8.out]; rfl
          have b2 : w8.cell? ⟨rb, 2, none⟩ = some (.slice rla rnl rlc) := by rw [cell_blkR HKr8.out]; rfl
          have b3 : w8.cell? ⟨rb, 3, none⟩ = some (.slice raa rna rac) := by rw [cell_blkR HKr8.out]; rfl
          have b4 : w8.cell? ⟨rb, 4, none⟩ = some (.slice rda rnd rdc) := by rw [cell_blkR HKr8.out]; rfl
          clear hap hblk
          go_wp2_with fail
          refine Hap.out.mono ?_
          rintro e w9 hout
          obtain ⟨hb9, hc⟩ := stOut_two hout
          rcases hc with ⟨c, -, -, -, -, hct, rfl⟩ | ⟨A, _, _, _, hap2, -⟩
          rotate_left
          · exfalso
            have h1 : applyP (lvOf U.l) rdr (psM rad) = some A := hap2
            rw [Hnone.out] at h1
            cases h1
          obtain rfl : c = 150 := hct Hok.out
          have hA : Below w9.heap.size w9 (w9.alloc (.cells #[.slice none 0 0, .slice none 0 0, .slice none 0 0, .slice none 0 0, .int .i64 0, .slice none 0 0] 63)) := (Below.refl _ _).alloc (Nat.le_refl _) _
          have HS10 := Lib.hid ((HS8.out.below hb9).below hA)
          have HKr10 := Lib.hid (blk_bels hA (blk_bels hb9 HKr8.out))
          have HKv10 := Lib.hid (blk_bels hA (blk_bels hb9 HKv8.out))
          clear hout hb9 hA hct Hap HS8 HKr8 HKv8 s0 s1 s2 s3 s4 s5 b0 b1 b2 b3 b4
          go_upto_region 20 with fail
          generalize w9.alloc (.cells #[.slice none 0 0, .slice none 0 0, .slice none 0 0, .slice none 0 0, .int .i64 0, .slice none 0 0] 63) = w10 at *
          have b0 : w10.cell? ⟨rb, 0, none⟩ = some (.bool false) := by rw [cell_blkR HKr10.out]; rfl
          go_wp2_with fail
          go_roundw
          case rel => exact ⟨k + 1, U, q, _, lg, Vv, bs, by omega, by go_num, by have := Hbl.out; omega, HS10.out⟩
          case measure => simp [intOf]; omega
        | some A1 =>
          rw [happ] at hou
          obtain ⟨U1, rfl, hoU1, hlU1, hb7⟩ := hou
          obtain ⟨A2, hA2, hAA⟩ := Hap0.out _ happ
          obtain ⟨xu0, xm0, xk0, xu1, xm1, xk1, xu2, xm2, xk2, xu3, xm3, xk3, xe0, xe1, xe2, xe3⟩ := vn_slices hoU1
          unfold Vn.cells
          rw [xe0, xe1, xe2, xe3]
          have hA : Below w7.heap.size w7 (w7.alloc (.cells #[.slice xu0 xm0 xk0, .slice xu1 xm1 xk1, .slice xu2 xm2 xk2, .slice xu3 xm3 xk3] 61)) := (Below.refl _ _).alloc (Nat.le_refl _) _
          have hb8 := hb7.trans (hA.mono hb7.size)
          have HS8 := Lib.hid (HS6.out.below hb8)
          have HKr8 := Lib.hid (blk_bels hb8 HKr6.out)
          have HKv8 := Lib.hid (blk_bels hb8 HKv6.out)
          have HBk8 : Hid (Bk w (w7.alloc (.cells #[.slice xu0 xm0 xk0, .slice xu1 xm1 xk1, .slice xu2 xm2 xk2, .slice xu3 xm3 xk3] 61)) _) := Lib.hid ⟨own_below HBk6.out.1 hb8, HBk6.out.2⟩
          have HoX8 := Lib.hid ((hoU1.below hA).mono HS6.out.sv.bw.size)
          have HKnb := Lib.hid (blk_of_alloc w7 (.cells #[.slice xu0 xm0 xk0, .slice xu1 xm1 xk1, .slice xu2 xm2 xk2, .slice xu3 xm3 xk3] 61))
          obtain ⟨nb, hnb⟩ : ∃ q, q = w7.heap.size := ⟨_, rfl⟩
          rw [← hnb] at HKnb
          have HEnb := Lib.hid hnb
          clear hA hnb
          have Hnl : Hid (nb ≠ vb ∧ nb ≠ sb ∧ nb ≠ rb) := Lib.hid (by have h1 := blk_lt HKv6.out; have h2 := blk_lt HS6.out.sv.blk; have h3 := blk_lt HKr6.out; have h4 := HEnb.out; have h5 := hb7.size; omega)
          have HlU1 := Lib.hid (show LvE (lvOf U1.l) A1 from hlU1)
          have HA2 := Lib.hid hA2
          have HAA := Lib.hid hAA
          clear hout hb7 hb8 happ Hap0 Hap1 Hva HS6 HKr6 HKv6 HBk6 v0 v1 v2 v3 b3 b4 hoU1 hlU1 hA2 hAA
          go_upto_region 19 with fail
          rw [← HEnb.out]
          generalize w7.alloc (.cells #[.slice xu0 xm0 xk0, .slice xu1 xm1 xk1, .slice xu2 xm2 xk2, .slice xu3 xm3 xk3] 61) = w8 at *
          have hap := sapply_any U q (.slice ga gn gc) ⟨_, _, _, rfl⟩ false rs _ _ _ rls rad rdr w8 HS8.out.sv.own.isVn HS8.out.sv.ok HS8.out.sv.small.1 HS8.out.sv.small.2 (HrL.out.below HS8.out.sv.bw) (HrD.out.below HS8.out.sv.bw) (pl_bel HrP.out HS8.out.sv.bw) (by have := Hrb.out.2.2.1; omega) (fun p hp => by have := (Hrb.out.1 p hp).1; omega)
          have hblk := HS8.out.sv.blk
          rw [e0, e1, e2, e3] at hap hblk
          have Hap := Lib.hid hap
          have s0 : w8.cell? ⟨sb, 0, none⟩ = some (.slice u0 m0 k0) := by rw [cell_blkR hblk]; rfl
          have s1 : w8.cell? ⟨sb, 1, none⟩ = some (.slice u1 m1 k1) := by rw [cell_blkR hblk]; rfl
          have s2 : w8.cell? ⟨sb, 2, none⟩ = some (.slice u2 m2 k2) := by rw [cell_blkR hblk]; rfl
          have s3 : w8.cell? ⟨sb, 3, none⟩ = some (.slice u3 m3 k3) := by rw [cell_blkR hblk]; rfl
          have s4 : w8.cell? ⟨sb, 4, none⟩ = some (.int .i64 q) := by rw [cell_blkR hblk]; rfl
          have s5 : w8.cell? ⟨sb, 5, none⟩ = some (.slice ga gn gc) := by rw [cell_blkR hblk]; rfl
          have b0 : w8.cell? ⟨rb, 0, none⟩ = some (.bool false) := by rw [cell_blkR HKr8.out]; rfl
          have b1 : w8.cell? ⟨rb, 1, none⟩ = some (.int .i64 rs) := by rw [cell_blkR HKr8.out]; rfl
          have b2 : w8.cell? ⟨rb, 2, none⟩ = some (.slice rla rnl rlc) := by rw [cell_blkR HKr8.out]; rfl
          have b3 : w8.cell? ⟨rb, 3, none⟩ = some (.slice raa rna rac) := by rw [cell_blkR HKr8.out]; rfl
          have b4 : w8.cell? ⟨rb, 4, none⟩ = some (.slice rda rnd rdc) := by rw [cell_blkR HKr8.out]; rfl
          clear hap hblk
          go_wp2_with fail
          refine Hap.out.mono ?_
          rintro e w9 hout
          obtain ⟨hb9, hc⟩ := stOut_two hout
          rcases hc with ⟨c, -, -, hnp, -, -, rfl⟩ | ⟨A3, U2, vg2, -, hap3, rfl, hoU2, hlU2, hvU2, hzU2, hsU2⟩
          · exfalso
            unfold stP at hnp
            rw [if_pos Hok.out] at hnp
            have h1 : applyP (lvOf U.l) rdr (psM rad) = none := hnp
            rw [HA2.out] at h1
            cases h1
          have h23 : A3 = A2 := by
            have h1 : applyP (lvOf U.l) rdr (psM rad) = some A3 := hap3
            rw [HA2.out] at h1
            injection h1 with h1
            exact h1.symm
          rw [h23] at hlU2
          dsimp only at hzU2 hsU2
          obtain ⟨zu0, zm0, zk0, zu1, zm1, zk1, zu2, zm2, zk2, zu3, zm3, zk3, ze0, ze1, ze2, ze3⟩ := vn_slices hoU2
          obtain ⟨zgn, zhg⟩ : ∃ q, q = rls.length := ⟨_, rfl⟩
          have zhgz := hzU2
          rw [OwnZ, ← zhg] at zhgz
          obtain ⟨zga, zgc, rfl⟩ := own_slice zhgz
          clear zhgz zhg
          dsimp only
          rw [ze0, ze1, ze2, ze3]
          have hA : Below w9.heap.size w9 (w9.alloc (.cells #[.slice zu0 zm0 zk0, .slice zu1 zm1 zk1, .slice zu2 zm2 zk2, .slice zu3 zm3 zk3, .int .i64 rs, .slice zga zgn zgc] 63)) := (Below.refl _ _).alloc (Nat.le_refl _) _
          have hb10 := hb9.trans (hA.mono hb9.size)
          have HS10 := Lib.hid (HS8.out.below hb10)
          have HKr10 := Lib.hid (blk_bels hb10 HKr8.out)
          have HKv10 := Lib.hid (blk_bels hb10 HKv8.out)
          have HKn10 := Lib.hid (blk_bels hb10 HKnb.out)
          have HBk10 : Hid (Bk w (w9.alloc (.cells #[.slice zu0 zm0 zk0, .slice zu1 zm1 zk1, .slice zu2 zm2 zk2, .slice zu3 zm3 zk3, .int .i64 rs, .slice zga zgn zgc] 63)) _) := Lib.hid ⟨own_below HBk8.out.1 hb10, HBk8.out.2⟩
          have HoX10 := Lib.hid (HoX8.out.below hb10)
          have HoZ10 := Lib.hid ((hoU2.below hA).mono HS8.out.sv.bw.size)
          have HzZ10 := Lib.hid (own_mono (own_below hzU2 hA) HS8.out.sv.bw.size)
          have HKtb := Lib.hid (blk_of_alloc w9 (.cells #[.slice zu0 zm0 zk0, .slice zu1 zm1 zk1, .slice zu2 zm2 zk2, .slice zu3 zm3 zk3, .int .i64 rs, .slice zga zgn zgc] 63))
          obtain ⟨tb, htb⟩ : ∃ q, q = w9.heap.size := ⟨_, rfl⟩
          rw [← htb] at HKtb
          have HEtb := Lib.hid htb
          clear hA htb
          have Htl : Hid (tb ≠ vb ∧ tb ≠ sb) := Lib.hid (by have h1 := blk_lt HKv8.out; have h2 := blk_lt HS8.out.sv.blk; have h4 := HEtb.out; have h5 := hb9.size; omega)
          have HlU2 := Lib.hid hlU2
          have HvU2 := Lib.hid hvU2
          have HsU2 := Lib.hid hsU2
          have heq := vequal_yes U2 U1 _ HoZ10.out.isVn HoX10.out.isVn (hlU2.trans (HAA.out.trans HlU1.out.symm))
          unfold Vn.cells at heq
          rw [ze0, ze1, ze2, ze3, xe0, xe1, xe2, xe3] at heq
          have Heq := Lib.hid heq
          clear hout hb9 hb10 hap3 h23 hoU2 hlU2 hvU2 hzU2 hsU2 heq Hap HS8 HKr8 HKv8 HKnb HBk8 HoX8 s0 s1 s2 s3 s4 s5 b0 b1 b2 b3 b4
          go_upto_region 25 with fail
          rw [← HEtb.out]
          generalize w9.alloc (.cells #[.slice zu0 zm0 zk0, .slice zu1 zm1 zk1, .slice zu2 zm2 zk2, .slice zu3 zm3 zk3, .int .i64 rs, .slice zga zgn zgc] 63) = w10 at *
          have t0 : w10.cell? ⟨tb, 0, none⟩ = some (.slice zu0 zm0 zk0) := by rw [cell_blkR HKtb.out]; rfl
          have t1 : w10.cell? ⟨tb, 1, none⟩ = some (.slice zu1 zm1 zk1) := by rw [cell_blkR HKtb.out]; rfl
          have t2 : w10.cell? ⟨tb, 2, none⟩ = some (.slice zu2 zm2 zk2) := by rw [cell_blkR HKtb.out]; rfl
          have t3 : w10.cell? ⟨tb, 3, none⟩ = some (.slice zu3 zm3 zk3) := by rw [cell_blkR HKtb.out]; rfl
          have n0x : w10.cell? ⟨nb, 0, none⟩ = some (.slice xu0 xm0 xk0) := by rw [cell_blkR HKn10.out]; rfl
          have n1x : w10.cell? ⟨nb, 1, none⟩ = some (.slice xu1 xm1 xk1) := by rw [cell_blkR HKn10.out]; rfl
          have n2x : w10.cell? ⟨nb, 2, none⟩ = some (.slice xu2 xm2 xk2) := by rw [cell_blkR HKn10.out]; rfl
          have n3x : w10.cell? ⟨nb, 3, none⟩ = some (.slice xu3 xm3 xk3) := by rw [cell_blkR HKn10.out]; rfl
          go_wp2_with fail
          refine Heq.out.mono ?_
          rintro e w11 ⟨rfl, hb11⟩
          have HS11 := Lib.hid (HS10.out.below hb11)
          have HKr11 := Lib.hid (blk_bels hb11 HKr10.out)
          have HKv11 := Lib.hid (blk_bels hb11 HKv10.out)
          have HKn11 := Lib.hid (blk_bels hb11 HKn10.out)
          have HKt11 := Lib.hid (blk_bels hb11 HKtb.out)
          have HBk11 : Hid (Bk w w11 _) := Lib.hid ⟨own_below HBk10.out.1 hb11, HBk10.out.2⟩
          have HoX11 := Lib.hid (HoX10.out.below hb11)
          have HoZ11 := Lib.hid (HoZ10.out.below hb11)
          have HzZ11 := Lib.hid (own_below HzZ10.out hb11)
          have hin := ints_any (.slice zga zgn zgc) (.slice rla rnl rlc) rls rls w11 (isSl_own zzC_len HzZ11.out) (HrL.out.below HS11.out.sv.bw)
          rw [decide_eq_true rfl] at hin
          have Hin := Lib.hid hin
          clear hb11 hin Heq HS10 HKr10 HKv10 HKn10 HKtb HBk10 HoX10 HoZ10 HzZ10 t0 t1 t2 t3 n0x n1x n2x n3x
          have t4 : w11.cell? ⟨tb, 4, none⟩ = some (.int .i64 rs) := by rw [cell_blkR HKt11.out]; rfl
          have t5 : w11.cell? ⟨tb, 5, none⟩ = some (.slice zga zgn zgc) := by rw [cell_blkR HKt11.out]; rfl
          have b1 : w11.cell? ⟨rb, 1, none⟩ = some (.int .i64 rs) := by rw [cell_blkR HKr11.out]; rfl
          have b2 : w11.cell? ⟨rb, 2, none⟩ = some (.slice rla rnl rlc) := by rw [cell_blkR HKr11.out]; rfl
          go_wp2_with fail
          refine Hin.out.mono ?_
          rintro e w12 ⟨rfl, hb12⟩
          have HS12 := Lib.hid (HS11.out.below hb12)
          have HKv12 := Lib.hid (blk_bels hb12 HKv11.out)
          have HKn12 := Lib.hid (blk_bels hb12 HKn11.out)
          have HKt12 := Lib.hid (blk_bels hb12 HKt11.out)
          have HBk12 : Hid (Bk w w12 _) := Lib.hid ⟨own_below HBk11.out.1 hb12, HBk11.out.2⟩
          have HoX12 := Lib.hid (HoX11.out.below hb12)
          have HoZ12 := Lib.hid (HoZ11.out.below hb12)
          have HzZ12 := Lib.hid (own_below HzZ11.out hb12)
          clear hb12 Hin HS11 HKr11 HKv11 HKn11 HKt11 HBk11 HoX11 HoZ11 HzZ11 t4 t5 b1 b2
          go_upto_region 27 with fail
          refine wp_region_held_drew (S := fun V' => Hid (V'.heap[nb]? = some (.cells #[.slice xu0 xm0 xk0, .slice xu1 xm1 xk1, .slice xu2 xm2 xk2, .slice xu3 xm3 xk3] 61 (0, 0)) ∧ V'.heap[tb]? = some (.cells #[.slice zu0 zm0 zk0, .slice zu1 zm1 zk1, .slice zu2 zm2 zk2, .slice zu3 zm3 zk3, .int .i64 rs, .slice zga zgn zgc] 63 (0, 0)))) (by kernel_rfl) (Lib.hid ⟨HKn12.out, HKt12.out⟩) (fun hS0 => ?_)
          refine wpAnyH_take (i := 0) (oi := { dst := some 98, op := Op.load 61 (Operand.tmp 12), type := 61, pos := "law.go:130", after := #[], guard := none }) (v := ?_) rfl (by kernel_rfl) (by kernel_rfl) (by kernel_rfl) (fun _ _ _ h => h) (Or.inl ⟨by rfl, ?hy1⟩) hS0 ?_
          case hy1 => (intro V hSw; (try dsimp only at hSw); have qn0 : V.cell? ⟨nb, 0, none⟩ = some (.slice xu0 xm0 xk0) := (by rw [cell_blkR hSw.out.1]; rfl); have qn1 : V.cell? ⟨nb, 1, none⟩ = some (.slice xu1 xm1 xk1) := (by rw [cell_blkR hSw.out.1]; rfl); have qn2 : V.cell? ⟨nb, 2, none⟩ = some (.slice xu2 xm2 xk2) := (by rw [cell_blkR hSw.out.1]; rfl); have qn3 : V.cell? ⟨nb, 3, none⟩ = some (.slice xu3 xm3 xk3) := (by rw [cell_blkR hSw.out.1]; rfl); have qt0 : V.cell? ⟨tb, 0, none⟩ = some (.slice zu0 zm0 zk0) := (by rw [cell_blkR hSw.out.2]; rfl); have qt1 : V.cell? ⟨tb, 1, none⟩ = some (.slice zu1 zm1 zk1) := (by rw [cell_blkR hSw.out.2]; rfl); have qt2 : V.cell? ⟨tb, 2, none⟩ = some (.slice zu2 zm2 zk2) := (by rw [cell_blkR hSw.out.2]; rfl); have qt3 : V.cell? ⟨tb, 3, none⟩ = some (.slice zu3 zm3 zk3) := (by rw [cell_blkR hSw.out.2]; rfl); have qt4 : V.cell? ⟨tb, 4, none⟩ = some (.int .i64 rs) := (by rw [cell_blkR hSw.out.2]; rfl); have qt5 : V.cell? ⟨tb, 5, none⟩ = some (.slice zga zgn zgc) := (by rw [cell_blkR hSw.out.2]; rfl); clear hSw; go_simp; try with_reducible rfl)
          try simp only [Act.put, List.setIfInBounds_toArray, List.set_cons_zero, List.set_cons_succ]
          refine wpAnyH_take (i := 1) (oi := { dst := some 99, op := Op.load 63 (Operand.tmp 14), type := 63, pos := "law.go:130", after := #[{ on := 2, ground := Ground.gcOnly Departure.lateStores }], guard := none }) (v := ?_) rfl (by kernel_rfl) (by kernel_rfl) (by kernel_rfl) (fun _ _ _ h => h) (Or.inl ⟨by rfl, ?hy2⟩) hS0 ?_
          case hy2 => (intro V hSw; (try dsimp only at hSw); have qn0 : V.cell? ⟨nb, 0, none⟩ = some (.slice xu0 xm0 xk0) := (by rw [cell_blkR hSw.out.1]; rfl); have qn1 : V.cell? ⟨nb, 1, none⟩ = some (.slice xu1 xm1 xk1) := (by rw [cell_blkR hSw.out.1]; rfl); have qn2 : V.cell? ⟨nb, 2, none⟩ = some (.slice xu2 xm2 xk2) := (by rw [cell_blkR hSw.out.1]; rfl); have qn3 : V.cell? ⟨nb, 3, none⟩ = some (.slice xu3 xm3 xk3) := (by rw [cell_blkR hSw.out.1]; rfl); have qt0 : V.cell? ⟨tb, 0, none⟩ = some (.slice zu0 zm0 zk0) := (by rw [cell_blkR hSw.out.2]; rfl); have qt1 : V.cell? ⟨tb, 1, none⟩ = some (.slice zu1 zm1 zk1) := (by rw [cell_blkR hSw.out.2]; rfl); have qt2 : V.cell? ⟨tb, 2, none⟩ = some (.slice zu2 zm2 zk2) := (by rw [cell_blkR hSw.out.2]; rfl); have qt3 : V.cell? ⟨tb, 3, none⟩ = some (.slice zu3 zm3 zk3) := (by rw [cell_blkR hSw.out.2]; rfl); have qt4 : V.cell? ⟨tb, 4, none⟩ = some (.int .i64 rs) := (by rw [cell_blkR hSw.out.2]; rfl); have qt5 : V.cell? ⟨tb, 5, none⟩ = some (.slice zga zgn zgc) := (by rw [cell_blkR hSw.out.2]; rfl); clear hSw; go_simp; try with_reducible rfl)
          try simp only [Act.put, List.setIfInBounds_toArray, List.set_cons_zero, List.set_cons_succ]
          refine wpAnyH_ready (rs := [2]) (by kernel_rfl) (by simp) (AllReadyH.cons rfl (fun K hK => ?_) AllReadyH.nil)
          have hv : w12.heap[vb]? = some (.cells #[.slice yu0 ym0 yk0, .slice yu1 ym1 yk1, .slice yu2 ym2 yk2, .slice yu3 ym3 yk3] 61 (0, 0)) := HKv12.out
          have c0 : w12.cell? ⟨vb, 0, none⟩ = some (.slice yu0 ym0 yk0) := by rw [cell_blkR hv]; rfl
          have c1 : w12.cell? ⟨vb, 1, none⟩ = some (.slice yu1 ym1 yk1) := by rw [cell_blkR hv]; rfl
          have c2 : w12.cell? ⟨vb, 2, none⟩ = some (.slice yu2 ym2 yk2) := by rw [cell_blkR hv]; rfl
          have c3 : w12.cell? ⟨vb, 3, none⟩ = some (.slice yu3 ym3 yk3) := by rw [cell_blkR hv]; rfl
          have t0 := frozen_blkR hv 0
          have t1 := frozen_blkR hv 1
          have t2 := frozen_blkR hv 2
          have t3 := frozen_blkR hv 3
          go_simp
          clear c0 c1 c2 c3 t0 t1 t2 t3
          have hS2 : Hid ((((((w12.setCell ⟨vb, 0, none⟩ (.slice xu0 xm0 xk0)).setCell ⟨vb, 1, none⟩ (.slice xu1 xm1 xk1)).setCell ⟨vb, 2, none⟩ (.slice xu2 xm2 xk2)).setCell ⟨vb, 3, none⟩ (.slice xu3 xm3 xk3))).drew.heap[nb]? = some (.cells #[.slice xu0 xm0 xk0, .slice xu1 xm1 xk1, .slice xu2 xm2 xk2, .slice xu3 xm3 xk3] 61 (0, 0)) ∧ (((((w12.setCell ⟨vb, 0, none⟩ (.slice xu0 xm0 xk0)).setCell ⟨vb, 1, none⟩ (.slice xu1 xm1 xk1)).setCell ⟨vb, 2, none⟩ (.slice xu2 xm2 xk2)).setCell ⟨vb, 3, none⟩ (.slice xu3 xm3 xk3))).drew.heap[tb]? = some (.cells #[.slice zu0 zm0 zk0, .slice zu1 zm1 zk1, .slice zu2 zm2 zk2, .slice zu3 zm3 zk3, .int .i64 rs, .slice zga zgn zgc] 63 (0, 0))) := Lib.hid ⟨at_drew ((set4_other w12 vb (.slice xu0 xm0 xk0) (.slice xu1 xm1 xk1) (.slice xu2 xm2 xk2) (.slice xu3 xm3 xk3) nb Hnl.out.1).trans (of_drew hS0.out.1)), at_drew ((set4_other w12 vb (.slice xu0 xm0 xk0) (.slice xu1 xm1 xk1) (.slice xu2 xm2 xk2) (.slice xu3 xm3 xk3) tb Htl.out.1).trans (of_drew hS0.out.2))⟩
          refine hK.out _ _ hS2 (fun _ => ?_)
          clear hK K
          try simp only [Act.put, List.setIfInBounds_toArray, List.set_cons_zero, List.set_cons_succ]
          refine wpAnyH_ready (rs := [3]) (by kernel_rfl) (by simp) (AllReadyH.cons rfl (fun K hK => ?_) AllReadyH.nil)
          have HSd := HS12.out
          have hoth := HSd.s.oth (.slice xu0 xm0 xk0) (.slice xu1 xm1 xk1) (.slice xu2 xm2 xk2) (.slice xu3 xm3 xk3)
          have h4 := HSd.s.set Hne.out.1 Hne.out.2.2 (.slice xu0 xm0 xk0) (.slice xu1 xm1 xk1) (.slice xu2 xm2 xk2) (.slice xu3 xm3 xk3)
          have HoXv := Lib.hid (hoth.2.1 U1 HoX12.out)
          have HoZv := Lib.hid (hoth.2.1 U2 HoZ12.out)
          have HzZv := Lib.hid (hoth.2.2.1 _ _ HzZ12.out)
          have HBkv : Hid (Bk w (((((w12.setCell ⟨vb, 0, none⟩ (.slice xu0 xm0 xk0)).setCell ⟨vb, 1, none⟩ (.slice xu1 xm1 xk1)).setCell ⟨vb, 2, none⟩ (.slice xu2 xm2 xk2)).setCell ⟨vb, 3, none⟩ (.slice xu3 xm3 xk3))) (.slice qa qn qc, encR ⟨false, rs, rls, rad, rdr⟩)) := Lib.hid ⟨own_other (W := w12) HBk12.out.1 hv (by decide) hoth.2.2.2, HBk12.out.2⟩
          have HKvv := Lib.hid hoth.1
          have H4 := Lib.hid h4
          clear HSd hoth h4 hS0 hv
          generalize (((((w12.setCell ⟨vb, 0, none⟩ (.slice xu0 xm0 xk0)).setCell ⟨vb, 1, none⟩ (.slice xu1 xm1 xk1)).setCell ⟨vb, 2, none⟩ (.slice xu2 xm2 xk2)).setCell ⟨vb, 3, none⟩ (.slice xu3 xm3 xk3))) = wv at *
          have hblk := H4.out.sv.blk
          rw [e0, e1, e2, e3] at hblk
          have c0 : wv.cell? ⟨sb, 0, none⟩ = some (.slice u0 m0 k0) := by rw [cell_blkR hblk]; rfl
          have c1 : wv.cell? ⟨sb, 1, none⟩ = some (.slice u1 m1 k1) := by rw [cell_blkR hblk]; rfl
          have c2 : wv.cell? ⟨sb, 2, none⟩ = some (.slice u2 m2 k2) := by rw [cell_blkR hblk]; rfl
          have c3 : wv.cell? ⟨sb, 3, none⟩ = some (.slice u3 m3 k3) := by rw [cell_blkR hblk]; rfl
          have c4 : wv.cell? ⟨sb, 4, none⟩ = some (.int .i64 q) := by rw [cell_blkR hblk]; rfl
          have c5 : wv.cell? ⟨sb, 5, none⟩ = some (.slice ga gn gc) := by rw [cell_blkR hblk]; rfl
          have t0 := frozen_blkR hblk 0
          have t1 := frozen_blkR hblk 1
          have t2 := frozen_blkR hblk 2
          have t3 := frozen_blkR hblk 3
          have t4 := frozen_blkR hblk 4
          have t5 := frozen_blkR hblk 5
          clear hblk
          go_simp
          clear c0 c1 c2 c3 c4 c5 t0 t1 t2 t3 t4 t5
          have hS3 : Hid (((((((wv.setCell ⟨sb, 0, none⟩ (.slice zu0 zm0 zk0)).setCell ⟨sb, 1, none⟩ (.slice zu1 zm1 zk1)).setCell ⟨sb, 2, none⟩ (.slice zu2 zm2 zk2)).setCell ⟨sb, 3, none⟩ (.slice zu3 zm3 zk3)).setCell ⟨sb, 4, none⟩ (.int .i64 rs)).setCell ⟨sb, 5, none⟩ (.slice zga zgn zgc)).drew.heap[nb]? = some (.cells #[.slice xu0 xm0 xk0, .slice xu1 xm1 xk1, .slice xu2 xm2 xk2, .slice xu3 xm3 xk3] 61 (0, 0)) ∧ ((((((wv.setCell ⟨sb, 0, none⟩ (.slice zu0 zm0 zk0)).setCell ⟨sb, 1, none⟩ (.slice zu1 zm1 zk1)).setCell ⟨sb, 2, none⟩ (.slice zu2 zm2 zk2)).setCell ⟨sb, 3, none⟩ (.slice zu3 zm3 zk3)).setCell ⟨sb, 4, none⟩ (.int .i64 rs)).setCell ⟨sb, 5, none⟩ (.slice zga zgn zgc)).drew.heap[tb]? = some (.cells #[.slice zu0 zm0 zk0, .slice zu1 zm1 zk1, .slice zu2 zm2 zk2, .slice zu3 zm3 zk3, .int .i64 rs, .slice zga zgn zgc] 63 (0, 0))) := Lib.hid ⟨at_drew ((set6_oth wv sb (.slice zu0 zm0 zk0) (.slice zu1 zm1 zk1) (.slice zu2 zm2 zk2) (.slice zu3 zm3 zk3) (.int .i64 rs) (.slice zga zgn zgc) nb Hnl.out.2.1).trans (of_drew hS2.out.1)), at_drew ((set6_oth wv sb (.slice zu0 zm0 zk0) (.slice zu1 zm1 zk1) (.slice zu2 zm2 zk2) (.slice zu3 zm3 zk3) (.int .i64 rs) (.slice zga zgn zgc) tb Htl.out.2).trans (of_drew hS2.out.2))⟩
          refine hK.out _ _ hS3 (fun _ => ?_)
          clear hK K
          try simp only [Act.put, List.setIfInBounds_toArray, List.set_cons_zero, List.set_cons_succ]
          refine wpAnyH_done (by kernel_rfl) ?_ _
          have h4 := H4.out
          obtain ⟨hsv, hvk, hvo, hob, hbk⟩ := h4.next Hne.out.1 Hne.out.2.1 (U1 := U1) (by rw [xe0, xe1, xe2, xe3]; exact HKvv.out) HoXv.out HoZv.out HzZv.out HvU2.out HsU2.out ze0 ze1 ze2 ze3
          have hoe := fun p hp => hbk p (h4.oe p hp)
          have hxk := hbk _ HBkv.out
          obtain ⟨L0, hrp, hLE⟩ := h4.rp
          clear h4 H4 HoXv HoZv HzZv HBkv HKvv hbk hS2 hS3
          generalize ((((((wv.setCell ⟨sb, 0, none⟩ (.slice zu0 zm0 zk0)).setCell ⟨sb, 1, none⟩ (.slice zu1 zm1 zk1)).setCell ⟨sb, 2, none⟩ (.slice zu2 zm2 zk2)).setCell ⟨sb, 3, none⟩ (.slice zu3 zm3 zk3)).setCell ⟨sb, 4, none⟩ (.int .i64 rs)).setCell ⟨sb, 5, none⟩ (.slice zga zgn zgc)) = wu at *
          have hdr : Below wu.heap.size wu wu.drew := (Below.refl _ _).drew
          have hsv := hsv.below hdr
          have hvk := blk_bels hdr hvk
          have hvo := hvo.below hdr
          have hob := own_below hob hdr
          have hoe := fun p hp => (show Bk w wu.drew p from ⟨own_below (hoe p hp).1 hdr, (hoe p hp).2⟩)
          have hxk : Bk w wu.drew _ := ⟨own_below hxk.1 hdr, hxk.2⟩
          clear hdr
          generalize wu.drew = ww at *
          obtain ⟨L1, hL1, hLE1⟩ := replP_more hrp hLE Hok.out HA2.out (.slice qa qn qc)
          obtain ⟨a', n', c', w13, hrun, ho13, hg13⟩ := push_bd ww w.heap.size _ bs (.slice qa qn qc, encR ⟨false, rs, rls, rad, rdr⟩) ⟨_, _, _, rfl⟩ hob (by have := Hbl.out; omega) hsv.bw.size
          dsimp only at hrun
          have hal : Below ww.heap.size ww (ww.alloc (.cells #[.slice qa qn qc] 34)) := (Below.refl _ _).alloc (Nat.le_refl _) _
          have HI13 := Lib.hid (RpI.push hsv hvk hvo (HlU1.out.trans (HAA.out.symm.trans HlU2.out.symm)) hob hoe hxk hal hg13 ho13 ⟨L1, hL1, hLE1.trans HlU2.out.symm⟩)
          have hbl2 : (bs ++ [((.slice qa qn qc : Value), encR ⟨false, rs, rls, rad, rdr⟩)]).length ≤ k + 1 := by rw [List.length_append, List.length_singleton]; have := Hbl.out; omega
          have Hbl2 := Lib.hid hbl2
          clear hsv hvk hvo hob hoe hxk hrp hLE hL1 hLE1 ho13 hg13 hal hbl2
          go_wp2_with (at_builtin; first | (refine wpList_val rfl _ _ (run_append_op (.tmp 100) (.tmp 102) 47 47 rfl rfl rfl hrun) ?_) | (refine wpList_val rfl _ _ (run_append_op (.tmp 100) (.tmp 102) 47 47 rfl (by simp) (by simp) hrun) ?_))
          go_roundw
          case rel => exact ⟨k + 1, U2, rs, _, rls, U1, bs ++ [(.slice qa qn qc, encR ⟨false, rs, rls, rad, rdr⟩)], by omega, by go_num, Hbl2.out, HI13.out⟩
          case measure => simp [intOf]; omega
      · have HF := Lib.hid Hok.out
        have b0 : w5.cell? ⟨rb, 0, none⟩ = some (.bool true) := by rw [cell_blkR HKr5.out]; rfl
        have hvk := HI5.out.vk
        rw [ye0, ye1, ye2, ye3] at hvk
        have v0 : w5.cell? ⟨vb, 0, none⟩ = some (.slice yu0 ym0 yk0) := by rw [cell_blkR hvk]; rfl
        have v1 : w5.cell? ⟨vb, 1, none⟩ = some (.slice yu1 ym1 yk1) := by rw [cell_blkR hvk]; rfl
        have v2 : w5.cell? ⟨vb, 2, none⟩ = some (.slice yu2 ym2 yk2) := by rw [cell_blkR hvk]; rfl
        have v3 : w5.cell? ⟨vb, 3, none⟩ = some (.slice yu3 ym3 yk3) := by rw [cell_blkR hvk]; rfl
        have t0 := frozen_blkR hvk 0
        have t1 := frozen_blkR hvk 1
        have t2 := frozen_blkR hvk 2
        have t3 := frozen_blkR hvk 3
        have HS6 := Lib.hid (HI5.out.s.set Hne.out.1 Hne.out.2.2 (.slice none 0 0) (.slice none 0 0) (.slice none 0 0) (.slice none 0 0))
        have hoth := HI5.out.s.oth (.slice none 0 0) (.slice none 0 0) (.slice none 0 0) (.slice none 0 0)
        have HKv6 := Lib.hid hoth.1
        have HKr6 := Lib.hid ((hoth.2.2.2 rb Hrn.out.2).trans HKr5.out)
        have HBk6 : Hid (Bk w ((((((w5.setCell ⟨vb, 0, none⟩ (.slice none 0 0)).setCell ⟨vb, 1, none⟩ (.slice none 0 0)).setCell ⟨vb, 2, none⟩ (.slice none 0 0)).setCell ⟨vb, 3, none⟩ (.slice none 0 0)))) _) := Lib.hid ⟨own_other HBk.out.1 hvk (by decide) hoth.2.2.2, HBk.out.2⟩
        clear hvk hoth HI5 HKr5 HBk
        go_upto_region 18 with fail
        generalize (((((w5.setCell ⟨vb, 0, none⟩ (.slice none 0 0)).setCell ⟨vb, 1, none⟩ (.slice none 0 0)).setCell ⟨vb, 2, none⟩ (.slice none 0 0)).setCell ⟨vb, 3, none⟩ (.slice none 0 0))) = w6 at *
        clear v0 v1 v2 v3 t0 t1 t2 t3 b0
        have hap := vapply_any Vn.none _ _ rad rdr w6 (ownVn_none _ 0).isVn rfl (Nat.zero_le _) (fun p hp => by cases hp) (pl_bel HrP.out HS6.out.sv.bw) (HrD.out.below HS6.out.sv.bw) (by have := Hrb.out.2.2.1; omega) (fun p hp => by have := (Hrb.out.1 p hp).1; omega)
        have Hva := Lib.hid (show Calls Try.prog 24 #[.agg #[.slice none 0 0, .slice none 0 0, .slice none 0 0, .slice none 0 0], .agg #[.slice raa rna rac, .slice rda rnd rdc]] w6 _ from hap)
        clear hap
        have v0 : w6.cell? ⟨vb, 0, none⟩ = some (.slice none 0 0) := by rw [cell_blkR HKv6.out]; rfl
        have v1 : w6.cell? ⟨vb, 1, none⟩ = some (.slice none 0 0) := by rw [cell_blkR HKv6.out]; rfl
        have v2 : w6.cell? ⟨vb, 2, none⟩ = some (.slice none 0 0) := by rw [cell_blkR HKv6.out]; rfl
        have v3 : w6.cell? ⟨vb, 3, none⟩ = some (.slice none 0 0) := by rw [cell_blkR HKv6.out]; rfl
        have b3 : w6.cell? ⟨rb, 3, none⟩ = some (.slice raa rna rac) := by rw [cell_blkR HKr6.out]; rfl
        have b4 : w6.cell? ⟨rb, 4, none⟩ = some (.slice rda rnd rdc) := by rw [cell_blkR HKr6.out]; rfl
        go_wp2_with fail
        refine Hva.out.mono ?_
        rintro e w7 hout
        have hou := hout.out
        unfold ApOut at hou
        have Hap0 : Hid (∀ A, applyP (lvOf Vn.none.l) rdr (psM rad) = some A → ∃ B, applyP (lvOf Vn.none.l) rdr (psM rad) = some B ∧ LvE B A) := Lib.hid (fun A hA => ⟨A, hA, LvE.refl _⟩)
        have Hap1 : Hid (applyP (lvOf Vn.none.l) rdr (psM rad) = none → applyP (lvOf Vn.none.l) rdr (psM rad) = none) := Lib.hid (fun hA => hA)
        cases happ : applyP (lvOf Vn.none.l) rdr (psM rad) with
        | none =>
          rw [happ] at hou
          obtain ⟨rfl, hb7⟩ := hou
          have hnone := Hap1.out happ
          unfold Vn.cells Vn.none
          have hA : Below w7.heap.size w7 (w7.alloc (.cells #[.slice none 0 0, .slice none 0 0, .slice none 0 0, .slice none 0 0] 61)) := (Below.refl _ _).alloc (Nat.le_refl _) _
          have HS8 := Lib.hid ((HS6.out.below hb7).below hA)
          have HKr8 := Lib.hid (blk_bels hA (blk_bels hb7 HKr6.out))
          have HKv8 := Lib.hid (blk_bels hA (blk_bels hb7 HKv6.out))
          have Hnone := Lib.hid hnone
          clear hout hb7 hA happ hnone Hap0 Hap1 Hva HS6 HKr6 HKv6 HBk6 v0 v1 v2 v3 b3 b4
          go_upto_region 19 with fail
          generalize w7.alloc (.cells #[.slice none 0 0, .slice none 0 0, .slice none 0 0, .slice none 0 0] 61) = w8 at *
          have hap := sapply_any U q (.slice ga gn gc) ⟨_, _, _, rfl⟩ true rs _ _ _ rls rad rdr w8 HS8.out.sv.own.isVn HS8.out.sv.ok HS8.out.sv.small.1 HS8.out.sv.small.2 (HrL.out.below HS8.out.sv.bw) (HrD.out.below HS8.out.sv.bw) (pl_bel HrP.out HS8.out.sv.bw) (by have := Hrb.out.2.2.1; omega) (fun p hp => by have := (Hrb.out.1 p hp).1; omega)
          have hblk := HS8.out.sv.blk
          rw [e0, e1, e2, e3] at hap hblk
          have Hap := Lib.hid hap
          have s0 : w8.cell? ⟨sb, 0, none⟩ = some (.slice u0 m0 k0) := by rw [cell_blkR hblk]; rfl
          have s1 : w8.cell? ⟨sb, 1, none⟩ = some (.slice u1 m1 k1) := by rw [cell_blkR hblk]; rfl
          have s2 : w8.cell? ⟨sb, 2, none⟩ = some (.slice u2 m2 k2) := by rw [cell_blkR hblk]; rfl
          have s3 : w8.cell? ⟨sb, 3, none⟩ = some (.slice u3 m3 k3) := by rw [cell_blkR hblk]; rfl
          have s4 : w8.cell? ⟨sb, 4, none⟩ = some (.int .i64 q) := by rw [cell_blkR hblk]; rfl
          have s5 : w8.cell? ⟨sb, 5, none⟩ = some (.slice ga gn gc) := by rw [cell_blkR hblk]; rfl
          have b0 : w8.cell? ⟨rb, 0, none⟩ = some (.bool true) := by rw [cell_blkR HKr8.out]; rfl
          have b1 : w8.cell? ⟨rb, 1, none⟩ = some (.int .i64 rs) := by rw [cell_blkR HKr8.out]; rfl
          have b2 : w8.cell? ⟨rb, 2, none⟩ = some (.slice rla rnl rlc) := by rw [cell_blkR HKr8.out]; rfl
          have b3 : w8.cell? ⟨rb, 3, none⟩ = some (.slice raa rna rac) := by rw [cell_blkR HKr8.out]; rfl
          have b4 : w8.cell? ⟨rb, 4, none⟩ = some (.slice rda rnd rdc) := by rw [cell_blkR HKr8.out]; rfl
          clear hap hblk
          go_wp2_with fail
          refine Hap.out.mono ?_
          rintro e w9 hout
          obtain ⟨hb9, hc⟩ := stOut_two hout
          rcases hc with ⟨c, -, -, -, -, hct, rfl⟩ | ⟨A, _, _, _, hap2, -⟩
          rotate_left
          · exfalso
            have h1 : applyP (lvOf Vn.none.l) rdr (psM rad) = some A := hap2
            rw [Hnone.out] at h1
            cases h1
          obtain rfl : c = 150 := hct Hok.out
          have hA : Below w9.heap.size w9 (w9.alloc (.cells #[.slice none 0 0, .slice none 0 0, .slice none 0 0, .slice none 0 0, .int .i64 0, .slice none 0 0] 63)) := (Below.refl _ _).alloc (Nat.le_refl _) _
          have HS10 := Lib.hid ((HS8.out.below hb9).below hA)
          have HKr10 := Lib.hid (blk_bels hA (blk_bels hb9 HKr8.out))
          have HKv10 := Lib.hid (blk_bels hA (blk_bels hb9 HKv8.out))
          clear hout hb9 hA hct Hap HS8 HKr8 HKv8 s0 s1 s2 s3 s4 s5 b0 b1 b2 b3 b4
          go_upto_region 20 with fail
          generalize w9.alloc (.cells #[.slice none 0 0, .slice none 0 0, .slice none 0 0, .slice none 0 0, .int .i64 0, .slice none 0 0] 63) = w10 at *
          have b0 : w10.cell? ⟨rb, 0, none⟩ = some (.bool true) := by rw [cell_blkR HKr10.out]; rfl
          have hblk := HS10.out.sv.blk
          rw [e0, e1, e2, e3] at hblk
          have s0 : w10.cell? ⟨sb, 0, none⟩ = some (.slice u0 m0 k0) := by rw [cell_blkR hblk]; rfl
          have s1 : w10.cell? ⟨sb, 1, none⟩ = some (.slice u1 m1 k1) := by rw [cell_blkR hblk]; rfl
          have s2 : w10.cell? ⟨sb, 2, none⟩ = some (.slice u2 m2 k2) := by rw [cell_blkR hblk]; rfl
          have s3 : w10.cell? ⟨sb, 3, none⟩ = some (.slice u3 m3 k3) := by rw [cell_blkR hblk]; rfl
          have v0 : w10.cell? ⟨vb, 0, none⟩ = some (.slice none 0 0) := by rw [cell_blkR HKv10.out]; rfl
          have v1 : w10.cell? ⟨vb, 1, none⟩ = some (.slice none 0 0) := by rw [cell_blkR HKv10.out]; rfl
          have v2 : w10.cell? ⟨vb, 2, none⟩ = some (.slice none 0 0) := by rw [cell_blkR HKv10.out]; rfl
          have v3 : w10.cell? ⟨vb, 3, none⟩ = some (.slice none 0 0) := by rw [cell_blkR HKv10.out]; rfl
          have t0 := frozen_blkR HKv10.out 0
          have t1 := frozen_blkR HKv10.out 1
          have t2 := frozen_blkR HKv10.out 2
          have t3 := frozen_blkR HKv10.out 3
          have HI11 := Lib.hid (HS10.out.back Hne.out.1 Hne.out.2.2 e0 e1 e2 e3)
          clear hblk
          go_wp2_with fail
          go_roundw
          case rel => exact ⟨k + 1, U, q, _, lg, U, bs, by omega, by go_num, by have := Hbl.out; omega, HI11.out⟩
          case measure => simp [intOf]; omega
        | some A1 =>
          rw [happ] at hou
          obtain ⟨U1, rfl, hoU1, hlU1, hb7⟩ := hou
          obtain ⟨A2, hA2, hAA⟩ := Hap0.out _ happ
          obtain ⟨xu0, xm0, xk0, xu1, xm1, xk1, xu2, xm2, xk2, xu3, xm3, xk3, xe0, xe1, xe2, xe3⟩ := vn_slices hoU1
          unfold Vn.cells
          rw [xe0, xe1, xe2, xe3]
          have hA : Below w7.heap.size w7 (w7.alloc (.cells #[.slice xu0 xm0 xk0, .slice xu1 xm1 xk1, .slice xu2 xm2 xk2, .slice xu3 xm3 xk3] 61)) := (Below.refl _ _).alloc (Nat.le_refl _) _
          have hb8 := hb7.trans (hA.mono hb7.size)
          have HS8 := Lib.hid (HS6.out.below hb8)
          have HKr8 := Lib.hid (blk_bels hb8 HKr6.out)
          have HKv8 := Lib.hid (blk_bels hb8 HKv6.out)
          have HBk8 : Hid (Bk w (w7.alloc (.cells #[.slice xu0 xm0 xk0, .slice xu1 xm1 xk1, .slice xu2 xm2 xk2, .slice xu3 xm3 xk3] 61)) _) := Lib.hid ⟨own_below HBk6.out.1 hb8, HBk6.out.2⟩
          have HoX8 := Lib.hid ((hoU1.below hA).mono HS6.out.sv.bw.size)
          have HKnb := Lib.hid (blk_of_alloc w7 (.cells #[.slice xu0 xm0 xk0, .slice xu1 xm1 xk1, .slice xu2 xm2 xk2, .slice xu3 xm3 xk3] 61))
          obtain ⟨nb, hnb⟩ : ∃ q, q = w7.heap.size := ⟨_, rfl⟩
          rw [← hnb] at HKnb
          have HEnb := Lib.hid hnb
          clear hA hnb
          have Hnl : Hid (nb ≠ vb ∧ nb ≠ sb ∧ nb ≠ rb) := Lib.hid (by have h1 := blk_lt HKv6.out; have h2 := blk_lt HS6.out.sv.blk; have h3 := blk_lt HKr6.out; have h4 := HEnb.out; have h5 := hb7.size; omega)
          have HlU1 := Lib.hid (show LvE (lvOf U1.l) A1 from hlU1)
          have HA2 := Lib.hid hA2
          have HAA := Lib.hid hAA
          clear hout hb7 hb8 happ Hap0 Hap1 Hva HS6 HKr6 HKv6 HBk6 v0 v1 v2 v3 b3 b4 hoU1 hlU1 hA2 hAA
          go_upto_region 19 with fail
          rw [← HEnb.out]
          generalize w7.alloc (.cells #[.slice xu0 xm0 xk0, .slice xu1 xm1 xk1, .slice xu2 xm2 xk2, .slice xu3 xm3 xk3] 61) = w8 at *
          have hap := sapply_any U q (.slice ga gn gc) ⟨_, _, _, rfl⟩ true rs _ _ _ rls rad rdr w8 HS8.out.sv.own.isVn HS8.out.sv.ok HS8.out.sv.small.1 HS8.out.sv.small.2 (HrL.out.below HS8.out.sv.bw) (HrD.out.below HS8.out.sv.bw) (pl_bel HrP.out HS8.out.sv.bw) (by have := Hrb.out.2.2.1; omega) (fun p hp => by have := (Hrb.out.1 p hp).1; omega)
          have hblk := HS8.out.sv.blk
          rw [e0, e1, e2, e3] at hap hblk
          have Hap := Lib.hid hap
          have s0 : w8.cell? ⟨sb, 0, none⟩ = some (.slice u0 m0 k0) := by rw [cell_blkR hblk]; rfl
          have s1 : w8.cell? ⟨sb, 1, none⟩ = some (.slice u1 m1 k1) := by rw [cell_blkR hblk]; rfl
          have s2 : w8.cell? ⟨sb, 2, none⟩ = some (.slice u2 m2 k2) := by rw [cell_blkR hblk]; rfl
          have s3 : w8.cell? ⟨sb, 3, none⟩ = some (.slice u3 m3 k3) := by rw [cell_blkR hblk]; rfl
          have s4 : w8.cell? ⟨sb, 4, none⟩ = some (.int .i64 q) := by rw [cell_blkR hblk]; rfl
          have s5 : w8.cell? ⟨sb, 5, none⟩ = some (.slice ga gn gc) := by rw [cell_blkR hblk]; rfl
          have b0 : w8.cell? ⟨rb, 0, none⟩ = some (.bool true) := by rw [cell_blkR HKr8.out]; rfl
          have b1 : w8.cell? ⟨rb, 1, none⟩ = some (.int .i64 rs) := by rw [cell_blkR HKr8.out]; rfl
          have b2 : w8.cell? ⟨rb, 2, none⟩ = some (.slice rla rnl rlc) := by rw [cell_blkR HKr8.out]; rfl
          have b3 : w8.cell? ⟨rb, 3, none⟩ = some (.slice raa rna rac) := by rw [cell_blkR HKr8.out]; rfl
          have b4 : w8.cell? ⟨rb, 4, none⟩ = some (.slice rda rnd rdc) := by rw [cell_blkR HKr8.out]; rfl
          clear hap hblk
          go_wp2_with fail
          refine Hap.out.mono ?_
          rintro e w9 hout
          obtain ⟨hb9, hc⟩ := stOut_two hout
          rcases hc with ⟨c, -, -, hnp, -, -, rfl⟩ | ⟨A3, U2, vg2, -, hap3, rfl, hoU2, hlU2, hvU2, hzU2, hsU2⟩
          · exfalso
            unfold stP at hnp
            rw [if_pos Hok.out] at hnp
            have h1 : applyP (lvOf Vn.none.l) rdr (psM rad) = none := hnp
            rw [HA2.out] at h1
            cases h1
          have h23 : A3 = A2 := by
            have h1 : applyP (lvOf Vn.none.l) rdr (psM rad) = some A3 := hap3
            rw [HA2.out] at h1
            injection h1 with h1
            exact h1.symm
          rw [h23] at hlU2
          dsimp only at hzU2 hsU2
          obtain ⟨zu0, zm0, zk0, zu1, zm1, zk1, zu2, zm2, zk2, zu3, zm3, zk3, ze0, ze1, ze2, ze3⟩ := vn_slices hoU2
          obtain ⟨zgn, zhg⟩ : ∃ q, q = rls.length := ⟨_, rfl⟩
          have zhgz := hzU2
          rw [OwnZ, ← zhg] at zhgz
          obtain ⟨zga, zgc, rfl⟩ := own_slice zhgz
          clear zhgz zhg
          dsimp only
          rw [ze0, ze1, ze2, ze3]
          have hA : Below w9.heap.size w9 (w9.alloc (.cells #[.slice zu0 zm0 zk0, .slice zu1 zm1 zk1, .slice zu2 zm2 zk2, .slice zu3 zm3 zk3, .int .i64 rs, .slice zga zgn zgc] 63)) := (Below.refl _ _).alloc (Nat.le_refl _) _
          have hb10 := hb9.trans (hA.mono hb9.size)
          have HS10 := Lib.hid (HS8.out.below hb10)
          have HKr10 := Lib.hid (blk_bels hb10 HKr8.out)
          have HKv10 := Lib.hid (blk_bels hb10 HKv8.out)
          have HKn10 := Lib.hid (blk_bels hb10 HKnb.out)
          have HBk10 : Hid (Bk w (w9.alloc (.cells #[.slice zu0 zm0 zk0, .slice zu1 zm1 zk1, .slice zu2 zm2 zk2, .slice zu3 zm3 zk3, .int .i64 rs, .slice zga zgn zgc] 63)) _) := Lib.hid ⟨own_below HBk8.out.1 hb10, HBk8.out.2⟩
          have HoX10 := Lib.hid (HoX8.out.below hb10)
          have HoZ10 := Lib.hid ((hoU2.below hA).mono HS8.out.sv.bw.size)
          have HzZ10 := Lib.hid (own_mono (own_below hzU2 hA) HS8.out.sv.bw.size)
          have HKtb := Lib.hid (blk_of_alloc w9 (.cells #[.slice zu0 zm0 zk0, .slice zu1 zm1 zk1, .slice zu2 zm2 zk2, .slice zu3 zm3 zk3, .int .i64 rs, .slice zga zgn zgc] 63))
          obtain ⟨tb, htb⟩ : ∃ q, q = w9.heap.size := ⟨_, rfl⟩
          rw [← htb] at HKtb
          have HEtb := Lib.hid htb
          clear hA htb
          have Htl : Hid (tb ≠ vb ∧ tb ≠ sb) := Lib.hid (by have h1 := blk_lt HKv8.out; have h2 := blk_lt HS8.out.sv.blk; have h4 := HEtb.out; have h5 := hb9.size; omega)
          have HlU2 := Lib.hid hlU2
          have HvU2 := Lib.hid hvU2
          have HsU2 := Lib.hid hsU2
          have heq := vequal_yes U2 U1 _ HoZ10.out.isVn HoX10.out.isVn (hlU2.trans (HAA.out.trans HlU1.out.symm))
          unfold Vn.cells at heq
          rw [ze0, ze1, ze2, ze3, xe0, xe1, xe2, xe3] at heq
          have Heq := Lib.hid heq
          clear hout hb9 hb10 hap3 h23 hoU2 hlU2 hvU2 hzU2 hsU2 heq Hap HS8 HKr8 HKv8 HKnb HBk8 HoX8 s0 s1 s2 s3 s4 s5 b0 b1 b2 b3 b4
          go_upto_region 25 with fail
          rw [← HEtb.out]
          generalize w9.alloc (.cells #[.slice zu0 zm0 zk0, .slice zu1 zm1 zk1, .slice zu2 zm2 zk2, .slice zu3 zm3 zk3, .int .i64 rs, .slice zga zgn zgc] 63) = w10 at *
          have t0 : w10.cell? ⟨tb, 0, none⟩ = some (.slice zu0 zm0 zk0) := by rw [cell_blkR HKtb.out]; rfl
          have t1 : w10.cell? ⟨tb, 1, none⟩ = some (.slice zu1 zm1 zk1) := by rw [cell_blkR HKtb.out]; rfl
          have t2 : w10.cell? ⟨tb, 2, none⟩ = some (.slice zu2 zm2 zk2) := by rw [cell_blkR HKtb.out]; rfl
          have t3 : w10.cell? ⟨tb, 3, none⟩ = some (.slice zu3 zm3 zk3) := by rw [cell_blkR HKtb.out]; rfl
          have n0x : w10.cell? ⟨nb, 0, none⟩ = some (.slice xu0 xm0 xk0) := by rw [cell_blkR HKn10.out]; rfl
          have n1x : w10.cell? ⟨nb, 1, none⟩ = some (.slice xu1 xm1 xk1) := by rw [cell_blkR HKn10.out]; rfl
          have n2x : w10.cell? ⟨nb, 2, none⟩ = some (.slice xu2 xm2 xk2) := by rw [cell_blkR HKn10.out]; rfl
          have n3x : w10.cell? ⟨nb, 3, none⟩ = some (.slice xu3 xm3 xk3) := by rw [cell_blkR HKn10.out]; rfl
          go_wp2_with fail
          refine Heq.out.mono ?_
          rintro e w11 ⟨rfl, hb11⟩
          have HS11 := Lib.hid (HS10.out.below hb11)
          have HKr11 := Lib.hid (blk_bels hb11 HKr10.out)
          have HKv11 := Lib.hid (blk_bels hb11 HKv10.out)
          have HKn11 := Lib.hid (blk_bels hb11 HKn10.out)
          have HKt11 := Lib.hid (blk_bels hb11 HKtb.out)
          have HBk11 : Hid (Bk w w11 _) := Lib.hid ⟨own_below HBk10.out.1 hb11, HBk10.out.2⟩
          have HoX11 := Lib.hid (HoX10.out.below hb11)
          have HoZ11 := Lib.hid (HoZ10.out.below hb11)
          have HzZ11 := Lib.hid (own_below HzZ10.out hb11)
          have hin := ints_any (.slice zga zgn zgc) (.slice rla rnl rlc) rls rls w11 (isSl_own zzC_len HzZ11.out) (HrL.out.below HS11.out.sv.bw)
          rw [decide_eq_true rfl] at hin
          have Hin := Lib.hid hin
          clear hb11 hin Heq HS10 HKr10 HKv10 HKn10 HKtb HBk10 HoX10 HoZ10 HzZ10 t0 t1 t2 t3 n0x n1x n2x n3x
          have t4 : w11.cell? ⟨tb, 4, none⟩ = some (.int .i64 rs) := by rw [cell_blkR HKt11.out]; rfl
          have t5 : w11.cell? ⟨tb, 5, none⟩ = some (.slice zga zgn zgc) := by rw [cell_blkR HKt11.out]; rfl
          have b1 : w11.cell? ⟨rb, 1, none⟩ = some (.int .i64 rs) := by rw [cell_blkR HKr11.out]; rfl
          have b2 : w11.cell? ⟨rb, 2, none⟩ = some (.slice rla rnl rlc) := by rw [cell_blkR HKr11.out]; rfl
          go_wp2_with fail
          refine Hin.out.mono ?_
          rintro e w12 ⟨rfl, hb12⟩
          have HS12 := Lib.hid (HS11.out.below hb12)
          have HKv12 := Lib.hid (blk_bels hb12 HKv11.out)
          have HKn12 := Lib.hid (blk_bels hb12 HKn11.out)
          have HKt12 := Lib.hid (blk_bels hb12 HKt11.out)
          have HBk12 : Hid (Bk w w12 _) := Lib.hid ⟨own_below HBk11.out.1 hb12, HBk11.out.2⟩
          have HoX12 := Lib.hid (HoX11.out.below hb12)
          have HoZ12 := Lib.hid (HoZ11.out.below hb12)
          have HzZ12 := Lib.hid (own_below HzZ11.out hb12)
          clear hb12 Hin HS11 HKr11 HKv11 HKn11 HKt11 HBk11 HoX11 HoZ11 HzZ11 t4 t5 b1 b2
          go_upto_region 27 with fail
          refine wp_region_held_drew (S := fun V' => Hid (V'.heap[nb]? = some (.cells #[.slice xu0 xm0 xk0, .slice xu1 xm1 xk1, .slice xu2 xm2 xk2, .slice xu3 xm3 xk3] 61 (0, 0)) ∧ V'.heap[tb]? = some (.cells #[.slice zu0 zm0 zk0, .slice zu1 zm1 zk1, .slice zu2 zm2 zk2, .slice zu3 zm3 zk3, .int .i64 rs, .slice zga zgn zgc] 63 (0, 0)))) (by kernel_rfl) (Lib.hid ⟨HKn12.out, HKt12.out⟩) (fun hS0 => ?_)
          refine wpAnyH_take (i := 0) (oi := { dst := some 98, op := Op.load 61 (Operand.tmp 12), type := 61, pos := "law.go:130", after := #[], guard := none }) (v := ?_) rfl (by kernel_rfl) (by kernel_rfl) (by kernel_rfl) (fun _ _ _ h => h) (Or.inl ⟨by rfl, ?hy3⟩) hS0 ?_
          case hy3 => (intro V hSw; (try dsimp only at hSw); have qn0 : V.cell? ⟨nb, 0, none⟩ = some (.slice xu0 xm0 xk0) := (by rw [cell_blkR hSw.out.1]; rfl); have qn1 : V.cell? ⟨nb, 1, none⟩ = some (.slice xu1 xm1 xk1) := (by rw [cell_blkR hSw.out.1]; rfl); have qn2 : V.cell? ⟨nb, 2, none⟩ = some (.slice xu2 xm2 xk2) := (by rw [cell_blkR hSw.out.1]; rfl); have qn3 : V.cell? ⟨nb, 3, none⟩ = some (.slice xu3 xm3 xk3) := (by rw [cell_blkR hSw.out.1]; rfl); have qt0 : V.cell? ⟨tb, 0, none⟩ = some (.slice zu0 zm0 zk0) := (by rw [cell_blkR hSw.out.2]; rfl); have qt1 : V.cell? ⟨tb, 1, none⟩ = some (.slice zu1 zm1 zk1) := (by rw [cell_blkR hSw.out.2]; rfl); have qt2 : V.cell? ⟨tb, 2, none⟩ = some (.slice zu2 zm2 zk2) := (by rw [cell_blkR hSw.out.2]; rfl); have qt3 : V.cell? ⟨tb, 3, none⟩ = some (.slice zu3 zm3 zk3) := (by rw [cell_blkR hSw.out.2]; rfl); have qt4 : V.cell? ⟨tb, 4, none⟩ = some (.int .i64 rs) := (by rw [cell_blkR hSw.out.2]; rfl); have qt5 : V.cell? ⟨tb, 5, none⟩ = some (.slice zga zgn zgc) := (by rw [cell_blkR hSw.out.2]; rfl); clear hSw; go_simp; try with_reducible rfl)
          try simp only [Act.put, List.setIfInBounds_toArray, List.set_cons_zero, List.set_cons_succ]
          refine wpAnyH_take (i := 1) (oi := { dst := some 99, op := Op.load 63 (Operand.tmp 14), type := 63, pos := "law.go:130", after := #[{ on := 2, ground := Ground.gcOnly Departure.lateStores }], guard := none }) (v := ?_) rfl (by kernel_rfl) (by kernel_rfl) (by kernel_rfl) (fun _ _ _ h => h) (Or.inl ⟨by rfl, ?hy4⟩) hS0 ?_
          case hy4 => (intro V hSw; (try dsimp only at hSw); have qn0 : V.cell? ⟨nb, 0, none⟩ = some (.slice xu0 xm0 xk0) := (by rw [cell_blkR hSw.out.1]; rfl); have qn1 : V.cell? ⟨nb, 1, none⟩ = some (.slice xu1 xm1 xk1) := (by rw [cell_blkR hSw.out.1]; rfl); have qn2 : V.cell? ⟨nb, 2, none⟩ = some (.slice xu2 xm2 xk2) := (by rw [cell_blkR hSw.out.1]; rfl); have qn3 : V.cell? ⟨nb, 3, none⟩ = some (.slice xu3 xm3 xk3) := (by rw [cell_blkR hSw.out.1]; rfl); have qt0 : V.cell? ⟨tb, 0, none⟩ = some (.slice zu0 zm0 zk0) := (by rw [cell_blkR hSw.out.2]; rfl); have qt1 : V.cell? ⟨tb, 1, none⟩ = some (.slice zu1 zm1 zk1) := (by rw [cell_blkR hSw.out.2]; rfl); have qt2 : V.cell? ⟨tb, 2, none⟩ = some (.slice zu2 zm2 zk2) := (by rw [cell_blkR hSw.out.2]; rfl); have qt3 : V.cell? ⟨tb, 3, none⟩ = some (.slice zu3 zm3 zk3) := (by rw [cell_blkR hSw.out.2]; rfl); have qt4 : V.cell? ⟨tb, 4, none⟩ = some (.int .i64 rs) := (by rw [cell_blkR hSw.out.2]; rfl); have qt5 : V.cell? ⟨tb, 5, none⟩ = some (.slice zga zgn zgc) := (by rw [cell_blkR hSw.out.2]; rfl); clear hSw; go_simp; try with_reducible rfl)
          try simp only [Act.put, List.setIfInBounds_toArray, List.set_cons_zero, List.set_cons_succ]
          refine wpAnyH_ready (rs := [2]) (by kernel_rfl) (by simp) (AllReadyH.cons rfl (fun K hK => ?_) AllReadyH.nil)
          have hv : w12.heap[vb]? = some (.cells #[.slice none 0 0, .slice none 0 0, .slice none 0 0, .slice none 0 0] 61 (0, 0)) := HKv12.out
          have c0 : w12.cell? ⟨vb, 0, none⟩ = some (.slice none 0 0) := by rw [cell_blkR hv]; rfl
          have c1 : w12.cell? ⟨vb, 1, none⟩ = some (.slice none 0 0) := by rw [cell_blkR hv]; rfl
          have c2 : w12.cell? ⟨vb, 2, none⟩ = some (.slice none 0 0) := by rw [cell_blkR hv]; rfl
          have c3 : w12.cell? ⟨vb, 3, none⟩ = some (.slice none 0 0) := by rw [cell_blkR hv]; rfl
          have t0 := frozen_blkR hv 0
          have t1 := frozen_blkR hv 1
          have t2 := frozen_blkR hv 2
          have t3 := frozen_blkR hv 3
          go_simp
          clear c0 c1 c2 c3 t0 t1 t2 t3
          have hS2 : Hid ((((((w12.setCell ⟨vb, 0, none⟩ (.slice xu0 xm0 xk0)).setCell ⟨vb, 1, none⟩ (.slice xu1 xm1 xk1)).setCell ⟨vb, 2, none⟩ (.slice xu2 xm2 xk2)).setCell ⟨vb, 3, none⟩ (.slice xu3 xm3 xk3))).drew.heap[nb]? = some (.cells #[.slice xu0 xm0 xk0, .slice xu1 xm1 xk1, .slice xu2 xm2 xk2, .slice xu3 xm3 xk3] 61 (0, 0)) ∧ (((((w12.setCell ⟨vb, 0, none⟩ (.slice xu0 xm0 xk0)).setCell ⟨vb, 1, none⟩ (.slice xu1 xm1 xk1)).setCell ⟨vb, 2, none⟩ (.slice xu2 xm2 xk2)).setCell ⟨vb, 3, none⟩ (.slice xu3 xm3 xk3))).drew.heap[tb]? = some (.cells #[.slice zu0 zm0 zk0, .slice zu1 zm1 zk1, .slice zu2 zm2 zk2, .slice zu3 zm3 zk3, .int .i64 rs, .slice zga zgn zgc] 63 (0, 0))) := Lib.hid ⟨at_drew ((set4_other w12 vb (.slice xu0 xm0 xk0) (.slice xu1 xm1 xk1) (.slice xu2 xm2 xk2) (.slice xu3 xm3 xk3) nb Hnl.out.1).trans (of_drew hS0.out.1)), at_drew ((set4_other w12 vb (.slice xu0 xm0 xk0) (.slice xu1 xm1 xk1) (.slice xu2 xm2 xk2) (.slice xu3 xm3 xk3) tb Htl.out.1).trans (of_drew hS0.out.2))⟩
          refine hK.out _ _ hS2 (fun _ => ?_)
          clear hK K
          try simp only [Act.put, List.setIfInBounds_toArray, List.set_cons_zero, List.set_cons_succ]
          refine wpAnyH_ready (rs := [3]) (by kernel_rfl) (by simp) (AllReadyH.cons rfl (fun K hK => ?_) AllReadyH.nil)
          have HSd := HS12.out
          have hoth := HSd.oth (.slice xu0 xm0 xk0) (.slice xu1 xm1 xk1) (.slice xu2 xm2 xk2) (.slice xu3 xm3 xk3)
          have h4 := HSd.set Hne.out.1 Hne.out.2.2 (.slice xu0 xm0 xk0) (.slice xu1 xm1 xk1) (.slice xu2 xm2 xk2) (.slice xu3 xm3 xk3)
          have HoXv := Lib.hid (hoth.2.1 U1 HoX12.out)
          have HoZv := Lib.hid (hoth.2.1 U2 HoZ12.out)
          have HzZv := Lib.hid (hoth.2.2.1 _ _ HzZ12.out)
          have HBkv : Hid (Bk w (((((w12.setCell ⟨vb, 0, none⟩ (.slice xu0 xm0 xk0)).setCell ⟨vb, 1, none⟩ (.slice xu1 xm1 xk1)).setCell ⟨vb, 2, none⟩ (.slice xu2 xm2 xk2)).setCell ⟨vb, 3, none⟩ (.slice xu3 xm3 xk3))) (.slice qa qn qc, encR ⟨true, rs, rls, rad, rdr⟩)) := Lib.hid ⟨own_other (W := w12) HBk12.out.1 hv (by decide) hoth.2.2.2, HBk12.out.2⟩
          have HKvv := Lib.hid hoth.1
          have H4 := Lib.hid h4
          clear HSd hoth h4 hS0 hv
          generalize (((((w12.setCell ⟨vb, 0, none⟩ (.slice xu0 xm0 xk0)).setCell ⟨vb, 1, none⟩ (.slice xu1 xm1 xk1)).setCell ⟨vb, 2, none⟩ (.slice xu2 xm2 xk2)).setCell ⟨vb, 3, none⟩ (.slice xu3 xm3 xk3))) = wv at *
          have hblk := H4.out.sv.blk
          rw [e0, e1, e2, e3] at hblk
          have c0 : wv.cell? ⟨sb, 0, none⟩ = some (.slice u0 m0 k0) := by rw [cell_blkR hblk]; rfl
          have c1 : wv.cell? ⟨sb, 1, none⟩ = some (.slice u1 m1 k1) := by rw [cell_blkR hblk]; rfl
          have c2 : wv.cell? ⟨sb, 2, none⟩ = some (.slice u2 m2 k2) := by rw [cell_blkR hblk]; rfl
          have c3 : wv.cell? ⟨sb, 3, none⟩ = some (.slice u3 m3 k3) := by rw [cell_blkR hblk]; rfl
          have c4 : wv.cell? ⟨sb, 4, none⟩ = some (.int .i64 q) := by rw [cell_blkR hblk]; rfl
          have c5 : wv.cell? ⟨sb, 5, none⟩ = some (.slice ga gn gc) := by rw [cell_blkR hblk]; rfl
          have t0 := frozen_blkR hblk 0
          have t1 := frozen_blkR hblk 1
          have t2 := frozen_blkR hblk 2
          have t3 := frozen_blkR hblk 3
          have t4 := frozen_blkR hblk 4
          have t5 := frozen_blkR hblk 5
          clear hblk
          go_simp
          clear c0 c1 c2 c3 c4 c5 t0 t1 t2 t3 t4 t5
          have hS3 : Hid (((((((wv.setCell ⟨sb, 0, none⟩ (.slice zu0 zm0 zk0)).setCell ⟨sb, 1, none⟩ (.slice zu1 zm1 zk1)).setCell ⟨sb, 2, none⟩ (.slice zu2 zm2 zk2)).setCell ⟨sb, 3, none⟩ (.slice zu3 zm3 zk3)).setCell ⟨sb, 4, none⟩ (.int .i64 rs)).setCell ⟨sb, 5, none⟩ (.slice zga zgn zgc)).drew.heap[nb]? = some (.cells #[.slice xu0 xm0 xk0, .slice xu1 xm1 xk1, .slice xu2 xm2 xk2, .slice xu3 xm3 xk3] 61 (0, 0)) ∧ ((((((wv.setCell ⟨sb, 0, none⟩ (.slice zu0 zm0 zk0)).setCell ⟨sb, 1, none⟩ (.slice zu1 zm1 zk1)).setCell ⟨sb, 2, none⟩ (.slice zu2 zm2 zk2)).setCell ⟨sb, 3, none⟩ (.slice zu3 zm3 zk3)).setCell ⟨sb, 4, none⟩ (.int .i64 rs)).setCell ⟨sb, 5, none⟩ (.slice zga zgn zgc)).drew.heap[tb]? = some (.cells #[.slice zu0 zm0 zk0, .slice zu1 zm1 zk1, .slice zu2 zm2 zk2, .slice zu3 zm3 zk3, .int .i64 rs, .slice zga zgn zgc] 63 (0, 0))) := Lib.hid ⟨at_drew ((set6_oth wv sb (.slice zu0 zm0 zk0) (.slice zu1 zm1 zk1) (.slice zu2 zm2 zk2) (.slice zu3 zm3 zk3) (.int .i64 rs) (.slice zga zgn zgc) nb Hnl.out.2.1).trans (of_drew hS2.out.1)), at_drew ((set6_oth wv sb (.slice zu0 zm0 zk0) (.slice zu1 zm1 zk1) (.slice zu2 zm2 zk2) (.slice zu3 zm3 zk3) (.int .i64 rs) (.slice zga zgn zgc) tb Htl.out.2).trans (of_drew hS2.out.2))⟩
          refine hK.out _ _ hS3 (fun _ => ?_)
          clear hK K
          try simp only [Act.put, List.setIfInBounds_toArray, List.set_cons_zero, List.set_cons_succ]
          refine wpAnyH_done (by kernel_rfl) ?_ _
          have h4 := H4.out
          obtain ⟨hsv, hvk, hvo, hob, hbk⟩ := h4.next Hne.out.1 Hne.out.2.1 (U1 := U1) (by rw [xe0, xe1, xe2, xe3]; exact HKvv.out) HoXv.out HoZv.out HzZv.out HvU2.out HsU2.out ze0 ze1 ze2 ze3
          have hoe := fun p hp => hbk p (h4.oe p hp)
          have hxk := hbk _ HBkv.out
          obtain ⟨L0, hrp, hLE⟩ := h4.rp
          clear h4 H4 HoXv HoZv HzZv HBkv HKvv hbk hS2 hS3
          generalize ((((((wv.setCell ⟨sb, 0, none⟩ (.slice zu0 zm0 zk0)).setCell ⟨sb, 1, none⟩ (.slice zu1 zm1 zk1)).setCell ⟨sb, 2, none⟩ (.slice zu2 zm2 zk2)).setCell ⟨sb, 3, none⟩ (.slice zu3 zm3 zk3)).setCell ⟨sb, 4, none⟩ (.int .i64 rs)).setCell ⟨sb, 5, none⟩ (.slice zga zgn zgc)) = wu at *
          have hdr : Below wu.heap.size wu wu.drew := (Below.refl _ _).drew
          have hsv := hsv.below hdr
          have hvk := blk_bels hdr hvk
          have hvo := hvo.below hdr
          have hob := own_below hob hdr
          have hoe := fun p hp => (show Bk w wu.drew p from ⟨own_below (hoe p hp).1 hdr, (hoe p hp).2⟩)
          have hxk : Bk w wu.drew _ := ⟨own_below hxk.1 hdr, hxk.2⟩
          clear hdr
          generalize wu.drew = ww at *
          obtain ⟨L1, hL1, hLE1⟩ := replP_more hrp hLE Hok.out HA2.out (.slice qa qn qc)
          obtain ⟨a', n', c', w13, hrun, ho13, hg13⟩ := push_bd ww w.heap.size _ bs (.slice qa qn qc, encR ⟨true, rs, rls, rad, rdr⟩) ⟨_, _, _, rfl⟩ hob (by have := Hbl.out; omega) hsv.bw.size
          dsimp only at hrun
          have hal : Below ww.heap.size ww (ww.alloc (.cells #[.slice qa qn qc] 34)) := (Below.refl _ _).alloc (Nat.le_refl _) _
          have HI13 := Lib.hid (RpI.push hsv hvk hvo (HlU1.out.trans (HAA.out.symm.trans HlU2.out.symm)) hob hoe hxk hal hg13 ho13 ⟨L1, hL1, hLE1.trans HlU2.out.symm⟩)
          have hbl2 : (bs ++ [((.slice qa qn qc : Value), encR ⟨true, rs, rls, rad, rdr⟩)]).length ≤ k + 1 := by rw [List.length_append, List.length_singleton]; have := Hbl.out; omega
          have Hbl2 := Lib.hid hbl2
          clear hsv hvk hvo hob hoe hxk hrp hLE hL1 hLE1 ho13 hg13 hal hbl2
          go_wp2_with (at_builtin; first | (refine wpList_val rfl _ _ (run_append_op (.tmp 100) (.tmp 102) 47 47 rfl rfl rfl hrun) ?_) | (refine wpList_val rfl _ _ (run_append_op (.tmp 100) (.tmp 102) 47 47 rfl (by simp) (by simp) hrun) ?_))
          go_roundw
          case rel => exact ⟨k + 1, U2, rs, _, rls, U1, bs ++ [(.slice qa qn qc, encR ⟨true, rs, rls, rad, rdr⟩)], by omega, by go_num, Hbl2.out, HI13.out⟩
          case measure => simp [intOf]; omega
    · have hlt : ¬ (k : Int) < (n0 : Int) := by omega
      obtain rfl : k = n0 := by omega
      obtain ⟨L, hrp, hLE⟩ := Hi.out.rp
      have hre := mreplay_any (.slice pa pn pc) bs ⟨L, q, lg⟩ wo Hi.out.isBB hrp
      dsimp only at hre
      have Hre := Lib.hid hre
      have Hrp := Lib.hid hrp
      have HLE := Lib.hid hLE
      clear hre hrp hLE
      go_wp2_with fail
      refine Hre.out.mono ?_
      rintro e w1 ⟨U3, vl3, rfl, hoU3, hlU3, hz3, hb1⟩
      obtain ⟨xu0, xm0, xk0, xu1, xm1, xk1, xu2, xm2, xk2, xu3, xm3, xk3, xe0, xe1, xe2, xe3⟩ := vn_slices hoU3
      obtain ⟨xgn, xhg⟩ : ∃ q, q = lg.length := ⟨_, rfl⟩
      have xhgz := hz3
      rw [OwnZ, ← xhg] at xhgz
      obtain ⟨xga, xgc, rfl⟩ := own_slice xhgz
      clear xhgz xhg
      rw [xe0, xe1, xe2, xe3]
      have hA : Below w1.heap.size w1 (w1.alloc (.cells #[.slice xu0 xm0 xk0, .slice xu1 xm1 xk1, .slice xu2 xm2 xk2, .slice xu3 xm3 xk3, .int .i64 q, .slice xga xgn xgc] 63)) := (Below.refl _ _).alloc (Nat.le_refl _) _
      have HI2 := Lib.hid ((Hi.out.below hb1).below hA)
      have HoX2 := hoU3.below hA
      have HzX2 := Lib.hid (show IsZs (w1.alloc (.cells #[.slice xu0 xm0 xk0, .slice xu1 xm1 xk1, .slice xu2 xm2 xk2, .slice xu3 xm3 xk3, .int .i64 q, .slice xga xgn xgc] 63)) _ lg from isSl_own zzC_len (own_below hz3 hA))
      have HKxb := Lib.hid (blk_of_alloc w1 (.cells #[.slice xu0 xm0 xk0, .slice xu1 xm1 xk1, .slice xu2 xm2 xk2, .slice xu3 xm3 xk3, .int .i64 q, .slice xga xgn xgc] 63))
      obtain ⟨xb, hxb⟩ : ∃ q, q = w1.heap.size := ⟨_, rfl⟩
      rw [← hxb] at HKxb
      have HExb := Lib.hid hxb
      clear hA hxb
      have heq := vequal_yes U3 U _ HoX2.isVn HI2.out.sv.own.isVn (fun n hn => (hlU3 n hn).trans (HLE.out n hn))
      unfold Vn.cells at heq
      rw [xe0, xe1, xe2, xe3, e0, e1, e2, e3] at heq
      have Heq := Lib.hid heq
      have hblk := HI2.out.sv.blk
      rw [e0, e1, e2, e3] at hblk
      have Hblk := Lib.hid hblk
      clear hb1 heq HoX2 hoU3 hlU3 hz3 Hre Hi hblk
      go_upto_region 31 with fail
      rw [← HExb.out]
      generalize w1.alloc (.cells #[.slice xu0 xm0 xk0, .slice xu1 xm1 xk1, .slice xu2 xm2 xk2, .slice xu3 xm3 xk3, .int .i64 q, .slice xga xgn xgc] 63) = w2 at *
      have t0 : w2.cell? ⟨xb, 0, none⟩ = some (.slice xu0 xm0 xk0) := by rw [cell_blkR HKxb.out]; rfl
      have t1 : w2.cell? ⟨xb, 1, none⟩ = some (.slice xu1 xm1 xk1) := by rw [cell_blkR HKxb.out]; rfl
      have t2 : w2.cell? ⟨xb, 2, none⟩ = some (.slice xu2 xm2 xk2) := by rw [cell_blkR HKxb.out]; rfl
      have t3 : w2.cell? ⟨xb, 3, none⟩ = some (.slice xu3 xm3 xk3) := by rw [cell_blkR HKxb.out]; rfl
      have s0 : w2.cell? ⟨sb, 0, none⟩ = some (.slice u0 m0 k0) := by rw [cell_blkR Hblk.out]; rfl
      have s1 : w2.cell? ⟨sb, 1, none⟩ = some (.slice u1 m1 k1) := by rw [cell_blkR Hblk.out]; rfl
      have s2 : w2.cell? ⟨sb, 2, none⟩ = some (.slice u2 m2 k2) := by rw [cell_blkR Hblk.out]; rfl
      have s3 : w2.cell? ⟨sb, 3, none⟩ = some (.slice u3 m3 k3) := by rw [cell_blkR Hblk.out]; rfl
      go_wp2_with fail
      refine Heq.out.mono ?_
      rintro e w3 ⟨rfl, hb3⟩
      have HI3 := Lib.hid (HI2.out.below hb3)
      have HKx3 := Lib.hid (blk_bels hb3 HKxb.out)
      have Hblk3 := Lib.hid (blk_bels hb3 Hblk.out)
      have hin := ints_any (.slice xga xgn xgc) (.slice ga gn gc) lg lg w3 (HzX2.out.below hb3) (isSl_own zzC_len HI3.out.sv.lgs)
      rw [decide_eq_true rfl] at hin
      have Hin := Lib.hid hin
      clear hb3 hin Heq HI2 HKxb Hblk HzX2 t0 t1 t2 t3 s0 s1 s2 s3
      have t4 : w3.cell? ⟨xb, 4, none⟩ = some (.int .i64 q) := by rw [cell_blkR HKx3.out]; rfl
      have t5 : w3.cell? ⟨xb, 5, none⟩ = some (.slice xga xgn xgc) := by rw [cell_blkR HKx3.out]; rfl
      have s4 : w3.cell? ⟨sb, 4, none⟩ = some (.int .i64 q) := by rw [cell_blkR Hblk3.out]; rfl
      have s5 : w3.cell? ⟨sb, 5, none⟩ = some (.slice ga gn gc) := by rw [cell_blkR Hblk3.out]; rfl
      go_wp2_with fail
      refine Hin.out.mono ?_
      rintro e w4 ⟨rfl, hb4⟩
      have HI4 := Lib.hid (HI3.out.below hb4)
      have Hblk4 := Lib.hid (blk_bels hb4 Hblk3.out)
      clear hb4 Hin HI3 HKx3 Hblk3 t4 t5 s4 s5
      go_upto_region 33 with fail
      have hwh := swhole_any U q (.slice ga gn gc) lg w4 HI4.out.sv.own.isVn HI4.out.sv.small.1 HI4.out.sv.small.2 (isSl_own zzC_len HI4.out.sv.lgs) HI4.out.sv.logs
      rw [e0, e1, e2, e3] at hwh
      have Hwh := Lib.hid hwh
      clear hwh
      have s0 : w4.cell? ⟨sb, 0, none⟩ = some (.slice u0 m0 k0) := by rw [cell_blkR Hblk4.out]; rfl
      have s1 : w4.cell? ⟨sb, 1, none⟩ = some (.slice u1 m1 k1) := by rw [cell_blkR Hblk4.out]; rfl
      have s2 : w4.cell? ⟨sb, 2, none⟩ = some (.slice u2 m2 k2) := by rw [cell_blkR Hblk4.out]; rfl
      have s3 : w4.cell? ⟨sb, 3, none⟩ = some (.slice u3 m3 k3) := by rw [cell_blkR Hblk4.out]; rfl
      have s4 : w4.cell? ⟨sb, 4, none⟩ = some (.int .i64 q) := by rw [cell_blkR Hblk4.out]; rfl
      have s5 : w4.cell? ⟨sb, 5, none⟩ = some (.slice ga gn gc) := by rw [cell_blkR Hblk4.out]; rfl
      go_wp2_with fail
      refine Hwh.out.mono ?_
      rintro e w5 ⟨jvl, hva, zad, rfl, hzp, hzo, hzz, hb5⟩
      obtain ⟨hn, hhn⟩ : ∃ q, q = zad.length := ⟨_, rfl⟩
      have hzo1 := hzo.1
      rw [← hhn] at hzo1
      obtain ⟨ha, hc, rfl⟩ := own_slice hzo1
      obtain ⟨jn, hjn⟩ : ∃ q, q = lg.length := ⟨_, rfl⟩
      have hzz1 := hzz
      rw [OwnZ, ← hjn] at hzz1
      obtain ⟨ja, jc, rfl⟩ := own_slice hzz1
      have Hrok := Lib.hid (whole_ok HI4.out.sv.ok hzp HI4.out.sv.st)
      have hn64 : hn ≤ 64 := by
        have h1 := congrArg List.length hzp
        unfold psM at h1
        rw [List.length_map, whP_len] at h1
        have := (ver_small HI4.out.sv.ok).1
        omega
      have hA : Below w5.heap.size w5 (w5.alloc (.cells #[.bool true, .int .i64 q, .slice ja jn jc, .slice ha hn hc, .slice none 0 0] 27)) := (Below.refl _ _).alloc (Nat.le_refl _) _
      have HI6 := Lib.hid ((HI4.out.below hb5).below hA)
      have Hblk6 := Lib.hid (blk_bels hA (blk_bels hb5 Hblk4.out))
      have Hj6 := Lib.hid (show IsZs (w5.alloc (.cells #[.bool true, .int .i64 q, .slice ja jn jc, .slice ha hn hc, .slice none 0 0] 27)) (.slice ja jn jc) lg from (isSl_own zzC_len hzz : IsZs w5 _ lg).below hA)
      have Hh6 := Lib.hid (show IsPl (w5.alloc (.cells #[.bool true, .int .i64 q, .slice ja jn jc, .slice ha hn hc, .slice none 0 0] 27)) (.slice ha hn hc) zad from pl_bel hzo.is hA)
      have HKzb := Lib.hid (blk_of_alloc w5 (.cells #[.bool true, .int .i64 q, .slice ja jn jc, .slice ha hn hc, .slice none 0 0] 27))
      obtain ⟨zb, hzb⟩ : ∃ q, q = w5.heap.size := ⟨_, rfl⟩
      rw [← hzb] at HKzb
      have HEzb := Lib.hid hzb
      clear hA hzb
      have Hzp := Lib.hid hzp
      have HIs := Lib.hid (recOk_is Hrok.out)
      clear hhn hzo1 hjn hzz1 hzp hzo hzz hb5 HI4 Hblk4 Hwh s0 s1 s2 s3 s4 s5
      go_upto_region 34 with fail
      rw [← HEzb.out]
      generalize w5.alloc (.cells #[.bool true, .int .i64 q, .slice ja jn jc, .slice ha hn hc, .slice none 0 0] 27) = w6 at *
      have dz1 : decide ((64 : Int) < (hn : Int)) = false := decide_eq_false (by omega)
      have dz2 : decide ((hn : Int) > 64) = false := decide_eq_false (by omega)
      have hby := recbytes_any true q (.slice ja jn jc) (.slice ha hn hc) (.slice none 0 0) lg zad [] w6 Hj6.out (isSl_nil _ _ _ _ _ (by unfold maxLen; omega)) Hh6.out (by have := HIs.out.an; dsimp only at this; omega) (fun p hp => by have := (HIs.out.ap p hp).rn; dsimp only at this; omega)
      have Hby := Lib.hid hby
      clear hby
      have b0 : w6.cell? ⟨zb, 0, none⟩ = some (.bool true) := by rw [cell_blkR HKzb.out]; rfl
      have b1 : w6.cell? ⟨zb, 1, none⟩ = some (.int .i64 q) := by rw [cell_blkR HKzb.out]; rfl
      have b2 : w6.cell? ⟨zb, 2, none⟩ = some (.slice ja jn jc) := by rw [cell_blkR HKzb.out]; rfl
      have b3 : w6.cell? ⟨zb, 3, none⟩ = some (.slice ha hn hc) := by rw [cell_blkR HKzb.out]; rfl
      have b4 : w6.cell? ⟨zb, 4, none⟩ = some (.slice none 0 0) := by rw [cell_blkR HKzb.out]; rfl
      go_wp2_with fail
      refine Hby.out.mono ?_
      rintro e w7 ⟨hcase, hb7⟩
      rcases hcase with ⟨hno, -⟩ | ⟨-, vbk, rfl, hbk⟩
      · rw [Hrok.out] at hno; cases hno
      have HI7 := Lib.hid (HI6.out.below hb7)
      have HKz7 := Lib.hid (blk_bels hb7 HKzb.out)
      have Hblk7 := Lib.hid (blk_bels hb7 Hblk6.out)
      obtain ⟨qn, hqn⟩ : ∃ z, z = (encR ⟨true, q, lg, zad, []⟩).length := ⟨_, rfl⟩
      have hbk2 := hbk
      rw [OwnBs, ← hqn] at hbk2
      obtain ⟨qa, qc, rfl⟩ := own_slice hbk2
      have hBk := encR_bk (w := w) Hrok.out hbk HI6.out.sv.bw.size
      obtain ⟨A, hA1, hA2⟩ := whole_apply HI7.out.sv.ok
      have hA3 : applyP (lvOf Vn.none.l) [] (psM zad) = some A := by rw [Hzp.out]; exact hA1
      obtain ⟨L1, hL1, hLE1⟩ := replP_more (r := ⟨true, q, lg, zad, []⟩) Hrp.out HLE.out Hrok.out hA3 (.slice qa qn qc)
      obtain ⟨a', n', c', w8, hrun, ho8, hg8⟩ := push_bd w7 w.heap.size _ bs (.slice qa qn qc, encR ⟨true, q, lg, zad, []⟩) ⟨_, _, _, rfl⟩ HI7.out.ob (by have := Hbl.out; omega) HI7.out.sv.bw.size
      dsimp only at hrun
      have hal : Below w7.heap.size w7 (w7.alloc (.cells #[.slice qa qn qc] 34)) := (Below.refl _ _).alloc (Nat.le_refl _) _
      have HI8 := Lib.hid (RpI.push HI7.out.sv HI7.out.vk HI7.out.vo HI7.out.ve HI7.out.ob HI7.out.oe hBk hal hg8 ho8 ⟨L1, hL1, hLE1.trans hA2⟩)
      have hob7 := HI7.out.ob
      have HKz8 := Lib.hid (grow_at hob7 hal hg8 HKz7.out (by decide))
      have Hblk8 := Lib.hid (grow_at hob7 hal hg8 Hblk7.out (by decide))
      have HBk8 : Hid (Bk w w8 (.slice qa qn qc, encR ⟨true, q, lg, zad, []⟩)) := Lib.hid (HI8.out.oe _ (List.mem_append.2 (.inr (List.mem_singleton.2 rfl))))
      have hre := mreplay_any (.slice a' n' c') _ ⟨L1, q, lg⟩ w8 HI8.out.isBB hL1
      dsimp only at hre
      have Hre := Lib.hid hre
      have HA2 := Lib.hid hA2
      have HA3 := Lib.hid hA3
      have HLE1 := Lib.hid hLE1
      clear hb7 hqn hbk hbk2 hBk hA1 hA2 hA3 hL1 hLE1 ho8 hg8 hal hob7 hre HI6 HKzb Hblk6 Hj6 Hh6 HI7 HKz7 Hblk7 b0 b1 b2 b3 b4 Hby dz1 dz2
      go_wp2_with (at_builtin; first | (refine wpList_val rfl _ _ (run_append_op (.tmp 149) (.tmp 151) 47 47 rfl rfl rfl hrun) ?_) | (refine wpList_val rfl _ _ (run_append_op (.tmp 149) (.tmp 151) 47 47 rfl (by simp) (by simp) hrun) ?_))
      refine Hre.out.mono ?_
      rintro e w9 ⟨U4, vl4, rfl, hoU4, hlU4, hz4, hb9⟩
      clear hrun
      obtain ⟨fu0, fm0, fk0, fu1, fm1, fk1, fu2, fm2, fk2, fu3, fm3, fk3, fe0, fe1, fe2, fe3⟩ := vn_slices hoU4
      obtain ⟨fgn, fhg⟩ : ∃ q, q = lg.length := ⟨_, rfl⟩
      have fhgz := hz4
      rw [OwnZ, ← fhg] at fhgz
      obtain ⟨fga, fgc, rfl⟩ := own_slice fhgz
      clear fhgz fhg
      rw [fe0, fe1, fe2, fe3]
      have hA : Below w9.heap.size w9 (w9.alloc (.cells #[.slice fu0 fm0 fk0, .slice fu1 fm1 fk1, .slice fu2 fm2 fk2, .slice fu3 fm3 fk3, .int .i64 q, .slice fga fgn fgc] 63)) := (Below.refl _ _).alloc (Nat.le_refl _) _
      have HI10 := Lib.hid ((HI8.out.below hb9).below hA)
      have HKz10 := Lib.hid (blk_bels hA (blk_bels hb9 HKz8.out))
      have Hblk10 := Lib.hid (blk_bels hA (blk_bels hb9 Hblk8.out))
      have HBk10 : Hid (Bk w (w9.alloc (.cells #[.slice fu0 fm0 fk0, .slice fu1 fm1 fk1, .slice fu2 fm2 fk2, .slice fu3 fm3 fk3, .int .i64 q, .slice fga fgn fgc] 63)) _) := Lib.hid ⟨own_below (own_below HBk8.out.1 hb9) hA, HBk8.out.2⟩
      have HoF10 := Lib.hid (hoU4.below hA)
      have HKfb := Lib.hid (blk_of_alloc w9 (.cells #[.slice fu0 fm0 fk0, .slice fu1 fm1 fk1, .slice fu2 fm2 fk2, .slice fu3 fm3 fk3, .int .i64 q, .slice fga fgn fgc] 63))
      obtain ⟨fb, hfb⟩ : ∃ q, q = w9.heap.size := ⟨_, rfl⟩
      rw [← hfb] at HKfb
      have HEfb := Lib.hid hfb
      clear hA hfb
      have HlF := Lib.hid (show LvE (lvOf U4.l) (lvOf U.l) from fun n hn => (hlU4 n hn).trans ((HLE1.out.trans HA2.out) n hn))
      clear hb9 hoU4 hlU4 hz4 Hre HI8 HKz8 Hblk8 HBk8
      go_upto_region 38 with fail
      rw [← HEfb.out]
      generalize w9.alloc (.cells #[.slice fu0 fm0 fk0, .slice fu1 fm1 fk1, .slice fu2 fm2 fk2, .slice fu3 fm3 fk3, .int .i64 q, .slice fga fgn fgc] 63) = w10 at *
      have hA : Below w10.heap.size w10 (w10.alloc (.cells #[.slice qa qn qc] 34)) := (Below.refl _ _).alloc (Nat.le_refl _) _
      have HI11 := Lib.hid (HI10.out.below hA)
      have HKz11 := Lib.hid (blk_bels hA HKz10.out)
      have HKf11 := Lib.hid (blk_bels hA HKfb.out)
      have Hblk11 := Lib.hid (blk_bels hA Hblk10.out)
      have HoF11 := Lib.hid (HoF10.out.below hA)
      have hbb : IsBB (w10.alloc (.cells #[.slice qa qn qc] 34)) (.slice (some ⟨w10.heap.size, 0, none⟩) 1 1) [(.slice qa qn qc, encR ⟨true, q, lg, zad, []⟩)] := ⟨isSl_lit bbC_len [((.slice qa qn qc : Value), encR ⟨true, q, lg, zad, []⟩)] _ _ _ rfl rfl 1 rfl (by unfold maxLen; omega), fun p hp => by
        obtain rfl := List.mem_singleton.1 hp
        exact ⟨isSl_own byteC_len (own_below HBk10.out.1 hA), HBk10.out.2⟩⟩
      have hrs : replP Sp.nil ([((.slice qa qn qc : Value), encR ⟨true, q, lg, zad, []⟩)].map (·.2)) = some ⟨A, q, lg⟩ := by
        show replP Sp.nil [encR ⟨true, q, lg, zad, []⟩] = _
        rw [replP_one, stepR_enc Hrok.out]
        show (applyP (lvOf Vn.none.l) [] (psM zad)).map _ = _
        rw [HA3.out]
        rfl
      have hre := mreplay_any _ _ _ _ hbb hrs
      dsimp only at hre
      have Hre := Lib.hid hre
      clear hA hbb hrs hre HI10 HKz10 HKfb Hblk10 HBk10 HoF10
      go_wp2_with fail
      refine Hre.out.mono ?_
      rintro e w12 ⟨U5, vl5, rfl, hoU5, hlU5, hz5, hb12⟩
      obtain ⟨gu0, gm0, gk0, gu1, gm1, gk1, gu2, gm2, gk2, gu3, gm3, gk3, ge0, ge1, ge2, ge3⟩ := vn_slices hoU5
      obtain ⟨ggn, ghg⟩ : ∃ q, q = lg.length := ⟨_, rfl⟩
      have ghgz := hz5
      rw [OwnZ, ← ghg] at ghgz
      obtain ⟨gga, ggc, rfl⟩ := own_slice ghgz
      clear ghgz ghg
      rw [ge0, ge1, ge2, ge3]
      have hA : Below w12.heap.size w12 (w12.alloc (.cells #[.slice gu0 gm0 gk0, .slice gu1 gm1 gk1, .slice gu2 gm2 gk2, .slice gu3 gm3 gk3, .int .i64 q, .slice gga ggn ggc] 63)) := (Below.refl _ _).alloc (Nat.le_refl _) _
      have HI13 := Lib.hid ((HI11.out.below hb12).below hA)
      have HKz13 := Lib.hid (blk_bels hA (blk_bels hb12 HKz11.out))
      have HKf13 := Lib.hid (blk_bels hA (blk_bels hb12 HKf11.out))
      have Hblk13 := Lib.hid (blk_bels hA (blk_bels hb12 Hblk11.out))
      have HoF13 := (HoF11.out.below hb12).below hA
      have HoG13 := Lib.hid (hoU5.below hA)
      have HzG13 := Lib.hid (show IsZs (w12.alloc (.cells #[.slice gu0 gm0 gk0, .slice gu1 gm1 gk1, .slice gu2 gm2 gk2, .slice gu3 gm3 gk3, .int .i64 q, .slice gga ggn ggc] 63)) _ lg from isSl_own zzC_len (own_below hz5 hA))
      have HKgb := Lib.hid (blk_of_alloc w12 (.cells #[.slice gu0 gm0 gk0, .slice gu1 gm1 gk1, .slice gu2 gm2 gk2, .slice gu3 gm3 gk3, .int .i64 q, .slice gga ggn ggc] 63))
      obtain ⟨gb, hgb⟩ : ∃ q, q = w12.heap.size := ⟨_, rfl⟩
      rw [← hgb] at HKgb
      have HEgb := Lib.hid hgb
      clear hA hgb
      have HlG := Lib.hid (show LvE (lvOf U5.l) (lvOf U.l) from fun n hn => (hlU5 n hn).trans (HA2.out n hn))
      have heq := vequal_yes U4 U _ HoF13.isVn HI13.out.sv.own.isVn HlF.out
      unfold Vn.cells at heq
      rw [fe0, fe1, fe2, fe3, e0, e1, e2, e3] at heq
      have Heq := Lib.hid heq
      clear hb12 hoU5 hlU5 hz5 Hre HI11 HKz11 HKf11 Hblk11 HoF11 HoF13 heq
      go_upto_region 39 with fail
      rw [← HEgb.out]
      generalize w12.alloc (.cells #[.slice gu0 gm0 gk0, .slice gu1 gm1 gk1, .slice gu2 gm2 gk2, .slice gu3 gm3 gk3, .int .i64 q, .slice gga ggn ggc] 63) = w13 at *
      have b0 : w13.cell? ⟨zb, 0, none⟩ = some (.bool true) := by rw [cell_blkR HKz13.out]; rfl
      have t0 : w13.cell? ⟨fb, 0, none⟩ = some (.slice fu0 fm0 fk0) := by rw [cell_blkR HKf13.out]; rfl
      have t1 : w13.cell? ⟨fb, 1, none⟩ = some (.slice fu1 fm1 fk1) := by rw [cell_blkR HKf13.out]; rfl
      have t2 : w13.cell? ⟨fb, 2, none⟩ = some (.slice fu2 fm2 fk2) := by rw [cell_blkR HKf13.out]; rfl
      have t3 : w13.cell? ⟨fb, 3, none⟩ = some (.slice fu3 fm3 fk3) := by rw [cell_blkR HKf13.out]; rfl
      have s0 : w13.cell? ⟨sb, 0, none⟩ = some (.slice u0 m0 k0) := by rw [cell_blkR Hblk13.out]; rfl
      have s1 : w13.cell? ⟨sb, 1, none⟩ = some (.slice u1 m1 k1) := by rw [cell_blkR Hblk13.out]; rfl
      have s2 : w13.cell? ⟨sb, 2, none⟩ = some (.slice u2 m2 k2) := by rw [cell_blkR Hblk13.out]; rfl
      have s3 : w13.cell? ⟨sb, 3, none⟩ = some (.slice u3 m3 k3) := by rw [cell_blkR Hblk13.out]; rfl
      go_wp2_with fail
      refine Heq.out.mono ?_
      rintro e w14 ⟨rfl, hb14⟩
      have HI14 := Lib.hid (HI13.out.below hb14)
      have HKg14 := Lib.hid (blk_bels hb14 HKgb.out)
      have Hblk14 := Lib.hid (blk_bels hb14 Hblk13.out)
      have HzG14 := Lib.hid (HzG13.out.below hb14)
      have heq := vequal_yes U5 U _ (HoG13.out.below hb14).isVn HI14.out.sv.own.isVn HlG.out
      unfold Vn.cells at heq
      rw [ge0, ge1, ge2, ge3, e0, e1, e2, e3] at heq
      have Heq2 := Lib.hid heq
      clear hb14 heq Heq HI13 HKgb HKz13 HKf13 Hblk13 HzG13 HoG13 b0 t0 t1 t2 t3 s0 s1 s2 s3
      have t0 : w14.cell? ⟨gb, 0, none⟩ = some (.slice gu0 gm0 gk0) := by rw [cell_blkR HKg14.out]; rfl
      have t1 : w14.cell? ⟨gb, 1, none⟩ = some (.slice gu1 gm1 gk1) := by rw [cell_blkR HKg14.out]; rfl
      have t2 : w14.cell? ⟨gb, 2, none⟩ = some (.slice gu2 gm2 gk2) := by rw [cell_blkR HKg14.out]; rfl
      have t3 : w14.cell? ⟨gb, 3, none⟩ = some (.slice gu3 gm3 gk3) := by rw [cell_blkR HKg14.out]; rfl
      have s0 : w14.cell? ⟨sb, 0, none⟩ = some (.slice u0 m0 k0) := by rw [cell_blkR Hblk14.out]; rfl
      have s1 : w14.cell? ⟨sb, 1, none⟩ = some (.slice u1 m1 k1) := by rw [cell_blkR Hblk14.out]; rfl
      have s2 : w14.cell? ⟨sb, 2, none⟩ = some (.slice u2 m2 k2) := by rw [cell_blkR Hblk14.out]; rfl
      have s3 : w14.cell? ⟨sb, 3, none⟩ = some (.slice u3 m3 k3) := by rw [cell_blkR Hblk14.out]; rfl
      go_wp2_with fail
      refine Heq2.out.mono ?_
      rintro e w15 ⟨rfl, hb15⟩
      have HI15 := Lib.hid (HI14.out.below hb15)
      have HKg15 := Lib.hid (blk_bels hb15 HKg14.out)
      have Hblk15 := Lib.hid (blk_bels hb15 Hblk14.out)
      have hin := ints_any (.slice gga ggn ggc) (.slice ga gn gc) lg lg w15 (HzG14.out.below hb15) (isSl_own zzC_len HI15.out.sv.lgs)
      rw [decide_eq_true rfl] at hin
      have Hin := Lib.hid hin
      clear hb15 hin Heq2 HI14 HKg14 Hblk14 HzG14 t0 t1 t2 t3 s0 s1 s2 s3
      have t4 : w15.cell? ⟨gb, 4, none⟩ = some (.int .i64 q) := by rw [cell_blkR HKg15.out]; rfl
      have t5 : w15.cell? ⟨gb, 5, none⟩ = some (.slice gga ggn ggc) := by rw [cell_blkR HKg15.out]; rfl
      have s4 : w15.cell? ⟨sb, 4, none⟩ = some (.int .i64 q) := by rw [cell_blkR Hblk15.out]; rfl
      have s5 : w15.cell? ⟨sb, 5, none⟩ = some (.slice ga gn gc) := by rw [cell_blkR Hblk15.out]; rfl
      go_wp2_with fail
      refine Hin.out.mono ?_
      rintro e w16 ⟨rfl, hb16⟩
      have HB16 := Lib.hid (HI15.out.sv.bw.trans (hb16.mono HI15.out.sv.bw.size))
      clear hb16 Hin HI15 HKg15 Hblk15 t4 t5 s4 s5
      go_wp2_with fail
      refine (Haw.out _).mono ?_
      rintro e wz ⟨rfl, hbz⟩
      have Hbz := Lib.hid (HB16.out.trans (hbz.mono HB16.out.size))
      clear hbz
      go_wp2_with fail
      go_ret
      exact ⟨rfl, Hbz.out⟩
end Go.Proofs.Ythjjelomlgmllaa.Tithe
