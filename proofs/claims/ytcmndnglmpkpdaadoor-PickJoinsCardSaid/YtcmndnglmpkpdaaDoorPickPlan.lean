/- pick.plan: walked. -/
import Derived.Test.YtcmndnglmpkpdaaDoorPickPlay
namespace Go.Proofs.YtcmndnglmpkpdaaDoor.Tithe
open Go.RowKit Go.Sort Go.Shelf
set_option linter.unusedVariables false
set_option linter.unusedSimpArgs false
set_option maxRecDepth 100000
/-! ### plain -/
structure Pn where
  frm : Int
  dest : Int
  up : List Int
  low : List Int
  upto : ByteArray
def planM (l : Nat → List Mr) (n : Nat) : Mr := (l n).getD (if n = 0 then (l 0).length - 1 else 0) Mr.nil
def planO (l : Nat → List Mr) (n : Nat) : List Mt := ((tabs l 4).filter (overB ((n : Int) + 1) (planM l n).1.a.u (planM l n).1.b.u)).map (·.2.1)
def upP (o : List Mt) : ByteArray := if o.length ≤ 3 then ⟨#[]⟩ else (o.getD (3 - 1) Mt.nil).b.u
def planP (l : Nat → List Mr) (n : Nat) : Pn := ⟨n, (n : Int) + 1, [(planM l n).1.z], ((planO l n).take 3).map (·.z), upP (planO l n)⟩
theorem own_set {W : World} {base b i n size : Nat} {e : TypeId} {x v : Value} {xs : List Value} (h : W.ownsRow base e size x n xs) (hb : b < base) : (W.setCell ⟨b, i, none⟩ v).ownsRow base e size x n xs := own_far h (grown_set W b i v) (fun r e => by cases e; exact hb)
/-- a plan in memory: its lists lie from a block on -/
def PlanIs (W : World) (base : Nat) (cs : Array Value) (p : Pn) : Prop := ∃ ua un uc la ln lc, cs = #[.int .i64 p.frm, .int .i64 p.dest, .slice ua un uc, .slice la ln lc, .string p.upto] ∧ (IsDz W (.slice ua un uc) p.up ∧ (∀ ad : Addr, ua = some ad → base ≤ ad.block) ∧ OwnZ W base (.slice ua un uc) p.up) ∧ (IsDz W (.slice la ln lc) p.low ∧ ∀ ad : Addr, la = some ad → base ≤ ad.block)
theorem PlanIs.below {W W' : World} {base : Nat} {cs : Array Value} {p : Pn} (h : PlanIs W base cs p) (hb : Below W.heap.size W W') : PlanIs W' base cs p := by
  obtain ⟨ua, un, uc, la, ln, lc, e, h1, h2⟩ := h
  exact ⟨ua, un, uc, la, ln, lc, e, ⟨h1.1.below hb, h1.2.1, own_below h1.2.2 hb⟩, h2.1.below hb, h2.2⟩
theorem PlanIs.mono {W : World} {base b2 : Nat} {cs : Array Value} {p : Pn} (h : PlanIs W base cs p) (hb : b2 ≤ base) : PlanIs W b2 cs p := by
  obtain ⟨ua, un, uc, la, ln, lc, e, h1, h2⟩ := h
  exact ⟨ua, un, uc, la, ln, lc, e, ⟨h1.1, fun ad q => Nat.le_trans hb (h1.2.1 ad q), own_mono h1.2.2 hb⟩, h2.1, fun ad q => Nat.le_trans hb (h2.2 ad q)⟩
theorem isDz_far {W : World} {base b i : Nat} {a : Option Addr} {n c : Nat} {zs : List Int} {v : Value} (h : IsDz W (.slice a n c) zs) (ha : ∀ ad : Addr, a = some ad → base ≤ ad.block) (hb : b < base) : IsDz (W.setCell ⟨b, i, none⟩ v) (.slice a n c) zs := by
  obtain ⟨a', c', e, h1, h2, h3⟩ := h
  refine ⟨a', c', e, h1, h2, fun hl => ?_⟩
  obtain ⟨g, off, ea, hc⟩ := h3 hl
  refine ⟨g, off, ea, fun k x hx j y hy => ?_⟩
  injection e with e1
  have hg := ha ⟨g, off, none⟩ (by rw [e1, ea])
  rw [← hc k x hx j y hy]
  have hh : (W.setCell ⟨b, i, none⟩ v).heap[g]? = W.heap[g]? := Below.heap_setCell W ⟨b, i, none⟩ v g (by show g ≠ b; have : base ≤ g := hg; omega)
  simp only [World.cell?, hh]
theorem PlanIs.set {W : World} {base b i : Nat} {cs : Array Value} {p : Pn} {v : Value} (h : PlanIs W base cs p) (hb : b < base) : PlanIs (W.setCell ⟨b, i, none⟩ v) base cs p := by
  obtain ⟨ua, un, uc, la, ln, lc, e, h1, h2⟩ := h
  exact ⟨ua, un, uc, la, ln, lc, e, ⟨isDz_far h1.1 h1.2.1 hb, h1.2.1, own_set h1.2.2 hb⟩, isDz_far h2.1 h2.2 hb, h2.2⟩
theorem planInfo : (Tryd.prog.info? 34).map (·.size) = some 5 := by kernel_rfl
/-! ### in memory -/
theorem blk_bels' {w w' : World} {B b : Nat} {x : Obj} (hb : Below B w w') (h : w.heap[b]? = some x ∧ b < B) : w'.heap[b]? = some x := (hb.block b h.2).trans h.1
theorem isVn_bels {W W' : World} {U : Vn} (h : IsVn W U) (hb : Below W.heap.size W W') : IsVn W' U := h.below hb
/-- the metas' own blocks are kept -/
structure KeptT (W W' : World) : Prop where
  size : W.heap.size ≤ W'.heap.size
  same : ∀ (b : Nat) (cs : Array Value) (fr : Nat × Nat), W.heap[b]? = some (.cells cs 49 fr) → W'.heap[b]? = some (.cells cs 49 fr)
theorem KeptT.refl (W : World) : KeptT W W := ⟨Nat.le_refl _, fun _ _ _ h => h⟩
theorem KeptT.trans {A B C : World} (h : KeptT A B) (k : KeptT B C) : KeptT A C := ⟨Nat.le_trans h.size k.size, fun b cs fr q => k.same b cs fr (h.same b cs fr q)⟩
theorem KeptT.below {A B : World} (h : Below A.heap.size A B) : KeptT A B := ⟨h.size, fun b cs fr q => blk_bels h q⟩
theorem KeptT.set {W : World} {b i : Nat} {cs : Array Value} {t : TypeId} {fr : Nat × Nat} (h : W.heap[b]? = some (.cells cs t fr)) (hne : t ≠ 49) (v : Value) : KeptT W (W.setCell ⟨b, i, none⟩ v) :=
  ⟨by rw [World.size_setCell]; exact Nat.le_refl _, fun b' cs' fr' q => (Below.heap_setCell _ ⟨b, i, none⟩ _ b' (by rintro rfl; rw [h] at q; injection q with q; injection q with q1 q2; exact hne q2)).trans q⟩
theorem KeptT.grown {W W' : World} {base n : Nat} {e : TypeId} {size : Nat} {v : Value} {xs : List Value} (h : W.ownsRow base e size v n xs) (hg : W.grownBy W' v.ownBlock) (hne : e ≠ 49) : KeptT W W' :=
  ⟨hg.size, fun b cs fr q => (hg.block b (blk_lt q) (fun e' => by
    obtain ⟨cur, hc⟩ := own_rowblk h b e'.symm
    rw [hc] at q; injection q with q; injection q with q1 q2; exact hne q2)).trans q⟩
theorem own_keptT {W W' : World} {base n size : Nat} {v : Value} {xs : List Value} (h : W.ownsRow base 49 size v n xs) (hk : KeptT W W') : W'.ownsRow base 49 size v n xs := by
  refine ⟨h.1, ?_⟩
  rcases h.2 with h0 | ⟨g, cap, cur, hv, hb, hh, r⟩
  · exact .inl h0
  · exact .inr ⟨g, cap, cur, hv, hb, hk.same _ _ _ hh, r⟩
/-- the plan's block -/
theorem blk_set4s {W : World} {pb n ub i lc : Nat} {la : Option Addr} {up : ByteArray} (h : W.heap[pb]? = some (.cells #[.int .i64 n, .int .i64 ((n : Int) + 1), .slice (some ⟨ub, 0, none⟩) 1 1, .slice la i lc, .string up] 34 (0, 0))) (up' : ByteArray) : (W.setCell ⟨pb, 4, none⟩ (.string up')).heap[pb]? = some (.cells #[.int .i64 n, .int .i64 ((n : Int) + 1), .slice (some ⟨ub, 0, none⟩) 1 1, .slice la i lc, .string up'] 34 (0, 0)) := (blk_set h).trans rfl
theorem blk_set_far {W : World} {b b' i : Nat} {x : Obj} {v : Value} (h : W.heap[b]? = some x) (hne : b ≠ b') : (W.setCell ⟨b', i, none⟩ v).heap[b]? = some x := (Below.heap_setCell _ ⟨b', i, none⟩ _ b hne).trans h
/-- the one number's block -/
structure Uz (W : World) (ub : Nat) (z : Int) : Prop where
  blk : W.heap[ub]? = some (.cells #[.int .i64 z] 3 (0, 0))
theorem Uz.below {W W' : World} {ub : Nat} {z : Int} (h : Uz W ub z) (hb : Below W.heap.size W W') : Uz W' ub z := ⟨blk_bels hb h.blk⟩
theorem uz_set {W : World} {ub b i : Nat} {z : Int} {v : Value} (h : Uz W ub z) (hne : ub ≠ b) : Uz (W.setCell ⟨b, i, none⟩ v) ub z := ⟨blk_set_far h.blk hne⟩
theorem Uz.is {W : World} {ub : Nat} {z : Int} (h : Uz W ub z) : IsDz W (.slice (some ⟨ub, 0, none⟩) 1 1) [z] := by
  refine ⟨_, _, rfl, Nat.le_refl _, by unfold maxLen; simp, fun _ => ⟨ub, 0, rfl, fun i x hx j y hj => ?_⟩⟩
  match i, hx with
  | 0, hx =>
    injection hx with hx
    subst hx
    match j, hj with
    | 0, hj =>
      injection hj with hj
      subst hj
      exact (cell_of_blk h.blk 0).trans rfl
theorem Uz.own {W : World} {ub base : Nat} {z : Int} (h : Uz W ub z) (hb : base ≤ ub) : OwnZ W base (.slice (some ⟨ub, 0, none⟩) 1 1) [z] :=
  ⟨rfl, .inr ⟨ub, 1, #[.int .i64 z], rfl, hb, h.blk, Nat.le_refl _, by unfold maxLen; omega, rfl, rfl⟩⟩
theorem plan_end {w W : World} {pb rb n ub i lc : Nat} {base : Nat} {la : Option Addr} {up' : ByteArray} {zs : List Int} {zz : Int} (hb : Below w.heap.size w W) (hp : W.heap[pb]? = some (.cells #[.int .i64 n, .int .i64 ((n : Int) + 1), .slice (some ⟨ub, 0, none⟩) 1 1, .slice la i lc, .string up'] 34 (0, 0))) (hr : W.heap[rb]? = some (.cells #[.int .i64 0, .int .i64 0, .slice none 0 0, .slice none 0 0, .string ⟨#[]⟩] 34 (0, 0)))
    (hown : OwnZ W base (.slice la i lc) zs) (hu : Uz W ub zz) (hw : w.heap.size ≤ rb) (hrb : rb < base) (hub : ub < base) (hne : ub ≠ rb) :
    (((((W.setCell ⟨rb, 0, none⟩ (.int .i64 n)).setCell ⟨rb, 1, none⟩ (.int .i64 ((n : Int) + 1))).setCell ⟨rb, 2, none⟩ (.slice (some ⟨ub, 0, none⟩) 1 1)).setCell ⟨rb, 3, none⟩ (.slice la i lc)).setCell ⟨rb, 4, none⟩ (.string up')).heap[rb]? = some (.cells #[.int .i64 n, .int .i64 ((n : Int) + 1), .slice (some ⟨ub, 0, none⟩) 1 1, .slice la i lc, .string up'] 34 (0, 0)) ∧ Uz (((((W.setCell ⟨rb, 0, none⟩ (.int .i64 n)).setCell ⟨rb, 1, none⟩ (.int .i64 ((n : Int) + 1))).setCell ⟨rb, 2, none⟩ (.slice (some ⟨ub, 0, none⟩) 1 1)).setCell ⟨rb, 3, none⟩ (.slice la i lc)).setCell ⟨rb, 4, none⟩ (.string up')) ub zz ∧ OwnZ (((((W.setCell ⟨rb, 0, none⟩ (.int .i64 n)).setCell ⟨rb, 1, none⟩ (.int .i64 ((n : Int) + 1))).setCell ⟨rb, 2, none⟩ (.slice (some ⟨ub, 0, none⟩) 1 1)).setCell ⟨rb, 3, none⟩ (.slice la i lc)).setCell ⟨rb, 4, none⟩ (.string up')) base (.slice la i lc) zs ∧ Below w.heap.size w (((((W.setCell ⟨rb, 0, none⟩ (.int .i64 n)).setCell ⟨rb, 1, none⟩ (.int .i64 ((n : Int) + 1))).setCell ⟨rb, 2, none⟩ (.slice (some ⟨ub, 0, none⟩) 1 1)).setCell ⟨rb, 3, none⟩ (.slice la i lc)).setCell ⟨rb, 4, none⟩ (.string up')) := by
  refine ⟨?_, uz_set (uz_set (uz_set (uz_set (uz_set hu hne) hne) hne) hne) hne, own_set (own_set (own_set (own_set (own_set hown hrb) hrb) hrb) hrb) hrb, ((((hb.setCell (p := ⟨rb, 0, none⟩) hw _).setCell (p := ⟨rb, 1, none⟩) hw _).setCell (p := ⟨rb, 2, none⟩) hw _).setCell (p := ⟨rb, 3, none⟩) hw _).setCell (p := ⟨rb, 4, none⟩) hw _⟩
  exact (blk_set (blk_set (blk_set (blk_set (blk_set hr))))).trans rfl
theorem planIs_mk {w W : World} {l : Nat → List Mr} {n ub i lc base : Nat} {la : Option Addr} {up : ByteArray} {zs : List Int} (hu : Uz W ub (planM l n).1.z) (hown : OwnZ W base (.slice la i lc) zs) (hi : i = min 3 (planO l n).length) (hz : zs = ((planO l n).take i).map (·.z)) (hup : upP (planO l n) = up) (hb : Below w.heap.size w W) (h1 : w.heap.size ≤ ub) (h2 : w.heap.size ≤ base) :
    ∃ cs, Ending.returned (.agg #[.int .i64 n, .int .i64 ((n : Int) + 1), .slice (some ⟨ub, 0, none⟩) 1 1, .slice la i lc, .string up]) = .returned (.agg cs) ∧ PlanIs W w.heap.size cs (planP l n) ∧ Below w.heap.size w W := by
  refine ⟨_, rfl, ⟨_, _, _, la, i, lc, by rw [← hup]; rfl, ⟨hu.is, fun ad e => ?_, hu.own h1⟩, ?_, fun ad e => ?_⟩, hb⟩
  · injection e with e; rw [← e]; exact h1
  · have e : zs = ((planO l n).take 3).map (·.z) := by
      rw [hz, hi]
      congr 1
      rcases Nat.le_total 3 (planO l n).length with q | q
      · rw [Nat.min_eq_left q]
      · rw [Nat.min_eq_right q, List.take_length, List.take_of_length_le q]
    show IsDz W _ (((planO l n).take 3).map (·.z))
    rw [← e]
    have := own_n hown
    exact isSl_own dzC_len hown
  · exact Nat.le_trans h2 (hown.lt ad.block (by rw [e]; rfl)).1
attribute [local go_sem] Oper.semAt_some
set_option maxHeartbeats 6400000 in
theorem plan_any (U : Vn) (n : Nat) (w : World) (hU : IsVn w U) (hn : n < 3) (hlen : 0 < (U.l n).length) (hl : (tabs U.l 4).length ≤ 100000) (hrl : ∀ p ∈ tabs U.l 4, p.2.1.refs.length ≤ 1000000) :
    Calls Tryd.prog 24 #[.agg U.cells, .int .i64 n] w fun e w' => Hid (∃ cs, e = .returned (.agg cs) ∧ PlanIs w' w.heap.size cs (planP U.l n) ∧ Below w.heap.size w w') := by
  have HUw := Lib.hid hU
  obtain ⟨va0, vn0, vc0, va1, vn1, vc1, va2, vn2, vc2, va3, vn3, vc3, hc⟩ := isVn_agg' hU
  have HAl : Hid (Below w.heap.size w ((w.alloc (.cells #[.slice va0 vn0 vc0, .slice va1 vn1 vc1, .slice va2 vn2 vc2, .slice va3 vn3 vc3] 26)).alloc (.cells #[.int .i64 0, .int .i64 0, .slice none 0 0, .slice none 0 0, .string ⟨#[]⟩] 34))) := Lib.hid (((Below.refl _ _).alloc (Nat.le_refl _) _).alloc (by simp) _)
  have HV : Hid (((w.alloc (.cells #[.slice va0 vn0 vc0, .slice va1 vn1 vc1, .slice va2 vn2 vc2, .slice va3 vn3 vc3] 26)).alloc (.cells #[.int .i64 0, .int .i64 0, .slice none 0 0, .slice none 0 0, .string ⟨#[]⟩] 34)).heap[w.heap.size]? = some (.cells #[.slice va0 vn0 vc0, .slice va1 vn1 vc1, .slice va2 vn2 vc2, .slice va3 vn3 vc3] 26 (0, 0))) := Lib.hid (blk_old (blk_of_alloc _ _) _)
  have HR : Hid (((w.alloc (.cells #[.slice va0 vn0 vc0, .slice va1 vn1 vc1, .slice va2 vn2 vc2, .slice va3 vn3 vc3] 26)).alloc (.cells #[.int .i64 0, .int .i64 0, .slice none 0 0, .slice none 0 0, .string ⟨#[]⟩] 34)).heap[w.heap.size + 1]? = some (.cells #[.int .i64 0, .int .i64 0, .slice none 0 0, .slice none 0 0, .string ⟨#[]⟩] 34 (0, 0))) := Lib.hid (blk_new (by simp only [World.size_alloc]) _)
  have HOv := Lib.hid (fun (A : World) (hA : IsVn A U) => over_any U ((n : Int) + 1) (planM U.l n).1.a.u (planM U.l n).1.b.u A hA hl hrl)
  have Hc := Lib.hid hc
  rw [hc] at HOv ⊢
  clear hU hc hl hrl
  go_enter Tryd.func24, Tryd.ntmps24
  go_upto_region 1 with fail
  generalize (w.alloc (.cells #[.slice va0 vn0 vc0, .slice va1 vn1 vc1, .slice va2 vn2 vc2, .slice va3 vn3 vc3] 26)).alloc (.cells #[.int .i64 0, .int .i64 0, .slice none 0 0, .slice none 0 0, .string ⟨#[]⟩] 34) = W1 at *
  have hmr := (HUw.out.below HAl.out) n (by omega)
  obtain ⟨sa, sc, hsv⟩ := isMr_slice hmr
  obtain ⟨m, hm⟩ : ∃ m, m + 1 = (U.l n).length := ⟨(U.l n).length - 1, by omega⟩
  rw [← hm] at hsv
  have hcn : W1.cell? ⟨w.heap.size, n, none⟩ = some (.slice sa (m + 1) sc) := (cell_of_blk HV.out n).trans (by rw [← Hc.out, vn_cell U (by omega), hsv])
  rw [hsv] at hmr
  obtain ⟨-, hmc, hmm, hmx⟩ := hmr.1.at
  obtain ⟨b3, off3, rfl, hcell3⟩ := hmx (by omega)
  have hni : (n : Int) < 3 := by omega
  have hni4 : (n : Int) < 4 := by omega
  have Hrr := Lib.hid hmr.2
  have Hm := Lib.hid hm
  obtain ⟨r0, hr0⟩ : ∃ r, (U.l n)[0]? = some r := ⟨_, List.getElem?_eq_getElem (by omega)⟩
  obtain ⟨rl, hrl2⟩ : ∃ r, (U.l n)[m]? = some r := ⟨_, List.getElem?_eq_getElem (by omega)⟩
  obtain ⟨d0, d1, d2, d3, d4, d5, d6, d7, d8⟩ := IsMr.row hcell3 hr0
  have Hlast := Lib.hid (fun (A : World) (hA : Below W1.heap.size W1 A) => IsMr.row (w := A) (fun i x hi j y hj => (hA.cell (block_lt_of_cell (hcell3 i x hi j y hj))).trans (hcell3 i x hi j y hj)) hrl2)
  have hrr0 := Hrr.out r0 (List.mem_of_getElem? hr0)
  have hrrl := Hrr.out rl (List.mem_of_getElem? hrl2)
  have Hr0 := Lib.hid hr0
  have Hrl := Lib.hid hrl2
  obtain ⟨⟨mz, mn, a, b, refs⟩, vr⟩ := r0
  obtain ⟨⟨lz, ln, lx, ly, lrefs⟩, vl⟩ := rl
  dsimp only at d0 d1 d2 d3 d4 d5 d6 d7 d8 hrr0 hrrl
  obtain ⟨ra, rc, hrv, -, -, -⟩ := hrr0
  obtain ⟨xa, xc, hlv, -, -, -⟩ := hrrl
  obtain ⟨rn, hrn⟩ : ∃ rn, rn = refs.length := ⟨_, rfl⟩
  obtain ⟨xn, hxn⟩ : ∃ xn, xn = lrefs.length := ⟨_, rfl⟩
  rw [← hrn] at hrv
  rw [← hxn] at hlv
  subst hrv hlv
  rw [Nat.zero_mul, Nat.add_zero] at d0 d1 d2 d3 d4 d5 d6 d7 d8
  have HA1 := Lib.hid ((Below.refl W1.heap.size W1).alloc (Nat.le_refl _) (.cells #[.int .i64 mz, .int .i64 mn, .string a.u, .int .i64 a.s, .int .i64 a.k, .string b.u, .int .i64 b.s, .int .i64 b.k, .slice ra rn rc] 49))
  have HM := Lib.hid (blk_of_alloc W1 (.cells #[.int .i64 mz, .int .i64 mn, .string a.u, .int .i64 a.s, .int .i64 a.k, .string b.u, .int .i64 b.s, .int .i64 b.k, .slice ra rn rc] 49))
  obtain ⟨mb, hmb⟩ : ∃ mb, mb = W1.heap.size := ⟨_, rfl⟩
  have Hmb := Lib.hid hmb
  rw [← hmb] at HM
  have hrb : w.heap.size + 1 < W1.heap.size := blk_lt HR.out
  clear hr0 hrl2 hcell3 hmr hmx hrn hxn hmb hm hsv
  go_upto_if 18 with fail
  rw [← Hmb.out]
  generalize W1.alloc (.cells #[.int .i64 mz, .int .i64 mn, .string a.u, .int .i64 a.s, .int .i64 a.k, .string b.u, .int .i64 b.s, .int .i64 b.k, .slice ra rn rc] 49) = W2 at *
  clear hcn d0 d1 d2 d3 d4 d5 d6 d7 d8
  go_cut [18] (fun tv wc => ∃ q, q = planM U.l n ∧ wc.heap[mb]? = some (.cells (mrC q).toArray 49 (0, 0)) ∧ Below W1.heap.size W1 wc)
  case first =>
    by_cases hn0 : n = 0
    · obtain ⟨l0, l1, l2, l3, l4, l5, l6, l7, l8⟩ := Hlast.out W2 HA1.out
      dsimp only at l0 l1 l2 l3 l4 l5 l6 l7 l8
      have hnz : ((n : Int) == 0) = true := by simp [hn0]
      have mz' := fun j => frozen_of_blk HM.out j
      have mc : ∀ j, W2.cell? ⟨mb, j, none⟩ = (#[.int .i64 mz, .int .i64 mn, .string a.u, .int .i64 a.s, .int .i64 a.k, .string b.u, .int .i64 b.s, .int .i64 b.k, .slice ra rn rc] : Array Value)[j]? := fun j => cell_of_blk HM.out j
      have mc0 := (cell_of_blk HM.out 0).trans (show _ = some (.int .i64 mz) from rfl)
      have mc1 := (cell_of_blk HM.out 1).trans (show _ = some (.int .i64 mn) from rfl)
      have mc2 := (cell_of_blk HM.out 2).trans (show _ = some (.string a.u) from rfl)
      have mc3 := (cell_of_blk HM.out 3).trans (show _ = some (.int .i64 a.s) from rfl)
      have mc4 := (cell_of_blk HM.out 4).trans (show _ = some (.int .i64 a.k) from rfl)
      have mc5 := (cell_of_blk HM.out 5).trans (show _ = some (.string b.u) from rfl)
      have mc6 := (cell_of_blk HM.out 6).trans (show _ = some (.int .i64 b.s) from rfl)
      have mc7 := (cell_of_blk HM.out 7).trans (show _ = some (.int .i64 b.k) from rfl)
      have mc8 := (cell_of_blk HM.out 8).trans (show _ = some (.slice ra rn rc) from rfl)
      clear mc
      have HF := Lib.hid (set9g rfl HM.out (.int .i64 lz) (.int .i64 ln) (.string lx.u) (.int .i64 lx.s) (.int .i64 lx.k) (.string ly.u) (.int .i64 ly.s) (.int .i64 ly.k) (.slice xa xn xc))
      have HB9 := Lib.hid (below9 (B := W1.heap.size) HA1.out (Nat.le_of_eq Hmb.out.symm) (.int .i64 lz) (.int .i64 ln) (.string lx.u) (.int .i64 lx.s) (.int .i64 lx.k) (.string ly.u) (.int .i64 ly.s) (.int .i64 ly.k) (.slice xa xn xc))
      have Hq : Hid ((⟨lz, ln, lx, ly, lrefs⟩, .slice xa xn xc) = planM U.l n) := Lib.hid (by
        unfold planM
        rw [if_pos hn0, List.getD_eq_getElem?_getD]
        have h1 := Hrl.out
        have h2 := Hm.out
        subst hn0
        rw [show (U.l 0).length - 1 = m by omega, h1]; rfl)
      have Hn0 := Lib.hid hn0
      rw [hnz]
      clear hn0 hnz
      go_wp2_with fail
      go_meet
      case rel => exact ⟨_, Hq.out, HF.out, HB9.out⟩
    · have hnz : ((n : Int) == 0) = false := by simp; omega
      have Hq : Hid ((⟨mz, mn, a, b, refs⟩, .slice ra rn rc) = planM U.l n) := Lib.hid (by
        unfold planM
        rw [if_neg hn0, List.getD_eq_getElem?_getD, Hr0.out]; rfl)
      go_wp2_with fail
      go_meet
      case rel => exact ⟨_, Hq.out, HM.out, HA1.out⟩
  case rest =>
    obtain ⟨q, hq, hmq, hb2⟩ := hcut
    obtain ⟨⟨mz, mn, a, b, refs⟩, vr⟩ := q
    rw [← hq] at HOv
    dsimp only at HOv
    have HPO : Hid ((((tabs U.l 4).filter (overB ((n : Int) + 1) a.u b.u)).map (·.2.1)).length = (planO U.l n).length) := Lib.hid (by unfold planO; rw [← hq])
    have HPQ : Hid (((tabs U.l 4).filter (overB ((n : Int) + 1) a.u b.u)).map (·.2.1) = planO U.l n) := Lib.hid (by unfold planO; rw [← hq])
    have HqM := Lib.hid hq
    have hmbl : mb < wc.heap.size := blk_lt hmq
    have Hmq := Lib.hid hmq
    have Hb2 := Lib.hid hb2
    have hrbl : w.heap.size + 1 < wc.heap.size := Nat.lt_of_lt_of_le hrb hb2.size
    have m0 := (cell_of_blk hmq 0).trans (show _ = some (.int .i64 mz) from rfl)
    have HAA : Hid (Below wc.heap.size wc ((wc.alloc (.cells #[.int .i64 mz] 3)).alloc (.cells #[.int .i64 n, .int .i64 ((n : Int) + 1), .slice (some ⟨wc.heap.size, 0, none⟩) 1 1, .slice none 0 0, .string ⟨#[]⟩] 34))) := Lib.hid (((Below.refl _ _).alloc (Nat.le_refl _) _).alloc (by simp) _)
    have HUzb : Hid (((wc.alloc (.cells #[.int .i64 mz] 3)).alloc (.cells #[.int .i64 n, .int .i64 ((n : Int) + 1), .slice (some ⟨wc.heap.size, 0, none⟩) 1 1, .slice none 0 0, .string ⟨#[]⟩] 34)).heap[wc.heap.size]? = some (.cells #[.int .i64 mz] 3 (0, 0))) := Lib.hid (blk_old (blk_of_alloc _ _) _)
    have HPb : Hid (((wc.alloc (.cells #[.int .i64 mz] 3)).alloc (.cells #[.int .i64 n, .int .i64 ((n : Int) + 1), .slice (some ⟨wc.heap.size, 0, none⟩) 1 1, .slice none 0 0, .string ⟨#[]⟩] 34)).heap[wc.heap.size + 1]? = some (.cells #[.int .i64 n, .int .i64 ((n : Int) + 1), .slice (some ⟨wc.heap.size, 0, none⟩) 1 1, .slice none 0 0, .string ⟨#[]⟩] 34 (0, 0))) := Lib.hid (blk_new (by simp only [World.size_alloc]) _)
    have HsA : Hid (((wc.alloc (.cells #[.int .i64 mz] 3)).alloc (.cells #[.int .i64 n, .int .i64 ((n : Int) + 1), .slice (some ⟨wc.heap.size, 0, none⟩) 1 1, .slice none 0 0, .string ⟨#[]⟩] 34)).heap.size = wc.heap.size + 1 + 1) := Lib.hid (by simp only [World.size_alloc])
    obtain ⟨ub, hub⟩ : ∃ ub, ub = wc.heap.size := ⟨_, rfl⟩
    rw [← hub] at HUzb HPb HsA hmbl hrbl
    rw [← hub] at HAA
    have Hub := Lib.hid hub
    clear hq hmq hb2 hub
    go_upto_region 6 with fail
    rw [← Hub.out]
    generalize (wc.alloc (.cells #[.int .i64 mz] 3)).alloc (.cells #[.int .i64 n, .int .i64 ((n : Int) + 1), .slice (some ⟨ub, 0, none⟩) 1 1, .slice none 0 0, .string ⟨#[]⟩] 34) = W5 at *
    clear m0
    obtain ⟨pb, hpbE⟩ : ∃ pb, pb = ub + 1 := ⟨_, rfl⟩
    rw [← hpbE] at HPb ⊢
    have hpbb : pb < W5.heap.size := by have := HsA.out; omega
    have hubpb : ub < pb := by omega
    have hmpb : mb < pb := by omega
    have hrpb : w.heap.size + 1 < pb := by omega
    have hwpb : w.heap.size ≤ pb := by omega
    have hb15 : Below W1.heap.size W1 W5 := Hb2.out.trans (HAA.out.mono (by rw [Hub.out]; exact Hb2.out.size))
    have HV5 := Lib.hid (And.intro (blk_bels hb15 HV.out) (show w.heap.size < pb by omega))
    have HR5 := Lib.hid (And.intro (blk_bels hb15 HR.out) hrpb)
    have HM5 := Lib.hid (And.intro ((HAA.out.block mb hmbl).trans Hmq.out) hmpb)
    have HUz5 := Lib.hid (And.intro HUzb.out hubpb)
    have Hb5 := Lib.hid (HAl.out.trans (hb15.mono HAl.out.size))
    have HU5 := Lib.hid (HUw.out.below Hb5.out)
    clear hb15 hpbE hmbl
    have c0 := (cell_of_blk HV5.out.1 0).trans (show _ = some (.slice va0 vn0 vc0) from rfl)
    have c1 := (cell_of_blk HV5.out.1 1).trans (show _ = some (.slice va1 vn1 vc1) from rfl)
    have c2 := (cell_of_blk HV5.out.1 2).trans (show _ = some (.slice va2 vn2 vc2) from rfl)
    have c3 := (cell_of_blk HV5.out.1 3).trans (show _ = some (.slice va3 vn3 vc3) from rfl)
    have m2 := (cell_of_blk HM5.out.1 2).trans (show _ = some (.string a.u) from rfl)
    have m5 := (cell_of_blk HM5.out.1 5).trans (show _ = some (.string b.u) from rfl)
    go_wp2_with fail
    refine (HOv.out _ HU5.out).mono ?_
    rintro e wv ⟨x, rws, rfl, hown, hrw, hbv⟩
    obtain ⟨ya, yc, rfl⟩ := own_slice hown.1
    obtain ⟨K, hK⟩ : ∃ K, K = rws.length := ⟨_, rfl⟩
    rw [← hK]
    have HK := Lib.hid hK
    have HKO : Hid (K = (planO U.l n).length) := Lib.hid (by rw [hK, ← HPQ.out, ← hrw, List.length_map])
    have Hrwp : Hid (rws.map (·.1) = planO U.l n) := Lib.hid (hrw.trans HPQ.out)
    have Hrows := Lib.hid hown.1
    have Hrefs := Lib.hid hown.2
    have hKc : K ≤ 9223372036854775807 := by have h1 := hown.isMr.1.at.2.1; have h2 := hown.isMr.1.at.2.2.1; omega
    have HPv := Lib.hid (blk_bels hbv HPb.out)
    have Hbv5 := Lib.hid (hbv.mono (Nat.le_of_lt hpbb))
    have hvs := hbv.size
    clear hown hrw hbv hK c0 c1 c2 c3 m2 m5
    go_wp2_with fail
    go_loopw [43] (fun iv wr => ∃ i : Nat, i ≤ K ∧ i ≤ 3 ∧ iv = .int .i64 i ∧ ∃ la lc up, wr.heap[pb]? = some (.cells #[.int .i64 n, .int .i64 ((n : Int) + 1), .slice (some ⟨ub, 0, none⟩) 1 1, .slice la i lc, .string up] 34 (0, 0)) ∧ OwnZ wr W5.heap.size (.slice la i lc) (((planO U.l n).take i).map (·.z)) ∧ (0 < i → (((planO U.l n).getD (i - 1) Mt.nil).b.u) = up) ∧ KeptT wv wr ∧ Below pb W5 wr ∧ W5.heap.size ≤ wr.heap.size) (fun iv _ => K - (intOf iv).toNat)
    case atStart => exact ⟨0, Nat.zero_le _, Nat.zero_le _, rfl, none, 0, _, HPv.out, World.ownsRow_nil _ _ _ _, fun h => absurd h (by omega), KeptT.refl _, Hbv5.out, hvs⟩
    case round =>
      obtain ⟨wr0, rfl⟩ : ∃ wr0 : World, wr0 = wr := ⟨_, rfl⟩
      obtain ⟨i, hiK, hi3, rfl, la, lc, up, hpb, hown, hup, hk, hb5r, hsr⟩ := hrel
      by_cases hlt : i < K
      · have hsl := isSl_own mrC_len (own_keptT (by have := Hrows.out; rw [← HK.out] at this ⊢; exact this) hk)
        obtain ⟨-, -, -, hx⟩ := hsl.at
        obtain ⟨b7, off7, rfl, hcell⟩ := hx (by omega)
        obtain ⟨r, hr⟩ : ∃ r, rws[i]? = some r := ⟨_, List.getElem?_eq_getElem (by rw [← HK.out]; exact hlt)⟩
        obtain ⟨d0, d1, d2, d3, d4, d5, d6, d7, d8⟩ := IsMr.row hcell hr
        have hpo : (planO U.l n)[i]? = some r.1 := by rw [← Hrwp.out, List.getElem?_map, hr]; rfl
        obtain ⟨⟨kz, kn, ka, kb, krefs⟩, vk⟩ := r
        dsimp only at d0 d1 d2 d3 d4 d5 d6 d7 d8 hpo
        have hvk : ∃ qa qn qc, vk = .slice qa qn qc := by
          obtain ⟨qa, qc, e⟩ := own_slice (Hrefs.out _ (List.mem_of_getElem? hr))
          exact ⟨qa, _, qc, e⟩
        obtain ⟨qa, qn, qc, hvk⟩ := hvk
        subst hvk
        have HAo := Lib.hid ((Below.refl wr0.heap.size wr0).alloc (Nat.le_refl _) (.cells #[.int .i64 kz, .int .i64 kn, .string ka.u, .int .i64 ka.s, .int .i64 ka.k, .string kb.u, .int .i64 kb.s, .int .i64 kb.k, .slice qa qn qc] 49))
        have HO := Lib.hid (blk_of_alloc wr0 (.cells #[.int .i64 kz, .int .i64 kn, .string ka.u, .int .i64 ka.s, .int .i64 ka.k, .string kb.u, .int .i64 kb.s, .int .i64 kb.k, .slice qa qn qc] 49))
        obtain ⟨ob, hob⟩ : ∃ ob, ob = wr0.heap.size := ⟨_, rfl⟩
        have Hob := Lib.hid hob
        rw [← hob] at HO
        have hobl : W5.heap.size ≤ ob := by rw [hob]; exact hsr
        have Hpo := Lib.hid hpo
        have hpb' := blk_bels HAo.out hpb
        have hown' := own_below hown HAo.out
        have hb5r' := hb5r.trans (HAo.out.mono (Nat.le_of_lt (Nat.lt_of_lt_of_le hpbb hsr)))
        have Hpb := Lib.hid hpb'
        have Hown := Lib.hid hown'
        have Hb5r := Lib.hid hb5r'
        have Hup := Lib.hid hup
        have Hk := Lib.hid (hk.trans (KeptT.below HAo.out))
        have Hsr := Lib.hid (Nat.le_trans hsr HAo.out.size)
        clear hr hcell hx hsl hpo hob hpb hown hb5r hup hk hpb' hown' hb5r' hsr
        go_upto_if 49 with fail
        rw [← Hob.out]
        generalize wr0.alloc (.cells #[.int .i64 kz, .int .i64 kn, .string ka.u, .int .i64 ka.s, .int .i64 ka.k, .string kb.u, .int .i64 kb.s, .int .i64 kb.k, .slice qa qn qc] 49) = wo at *
        clear d0 d1 d2 d3 d4 d5 d6 d7 d8
        by_cases hi3e : i = 3
        · have Hik : Hid ((i = K ∧ K ≤ 3) ∨ (i = 3 ∧ 3 < K)) := Lib.hid (.inr ⟨hi3e, by omega⟩)
          rw [show ((i : Int) == 3) = true by rw [hi3e]; rfl]
          have hpb := Hpb.out
          have hown := Hown.out
          have hb5r := Hb5r.out
          have hup := Hup.out
          have hk := Hk.out
          clear hi3e Hpb Hown Hb5r Hup Hk HAo HO Hsr hlt hi3 hiK hobl
          have Hpbl := Lib.hid hpb
          have HVr := Lib.hid (blk_bels' hb5r HV5.out)
          have HMr := Lib.hid (blk_bels' hb5r HM5.out)
          have HRr := Lib.hid (blk_bels' hb5r HR5.out)
          have HUb : Hid (Uz wo ub mz) := Lib.hid ⟨blk_bels' hb5r HUz5.out⟩
          have hbwr : Below w.heap.size w wo := Hb5.out.trans (hb5r.mono hwpb)
          have Hbwr := Lib.hid hbwr
          have HUr := Lib.hid (HUw.out.below hbwr)
          have Hown := Lib.hid hown
          have Hup0 := Lib.hid hup
          clear hpb hb5r hown hk hup hbwr
          have c0 := (cell_of_blk HVr.out 0).trans (show _ = some (.slice va0 vn0 vc0) from rfl)
          have c1 := (cell_of_blk HVr.out 1).trans (show _ = some (.slice va1 vn1 vc1) from rfl)
          have c2 := (cell_of_blk HVr.out 2).trans (show _ = some (.slice va2 vn2 vc2) from rfl)
          have c3 := (cell_of_blk HVr.out 3).trans (show _ = some (.slice va3 vn3 vc3) from rfl)
          have m2 := (cell_of_blk HMr.out 2).trans (show _ = some (.string a.u) from rfl)
          have m5 := (cell_of_blk HMr.out 5).trans (show _ = some (.string b.u) from rfl)
          go_wp2_with fail
          refine (HOv.out _ HUr.out).mono ?_
          rintro e wt ⟨x2, rws2, rfl, hown2, hrw2, hbt⟩
          have hK2 : rws2.length = K := by have h1 := congrArg List.length hrw2; rw [List.length_map] at h1; rw [h1, HKO.out]; exact HPO.out
          obtain ⟨ta, tc, rfl⟩ := own_slice hown2.1
          rw [hK2]
          have Hpt := Lib.hid (blk_bels hbt Hpbl.out)
          have HRt := Lib.hid (blk_bels hbt HRr.out)
          have Hownt := Lib.hid (own_below Hown.out hbt)
          have HUbt := Lib.hid (HUb.out.below hbt)
          have Hbt := Lib.hid (Hbwr.out.trans (hbt.mono Hbwr.out.size))
          clear hown2 hrw2 hbt hK2 c0 c1 c2 c3 m2 m5
          have s0 := (cell_of_blk Hpt.out 0).trans (show _ = some (.int .i64 n) from rfl)
          have s1 := (cell_of_blk Hpt.out 1).trans (show _ = some (.int .i64 ((n : Int) + 1)) from rfl)
          have s2 := (cell_of_blk Hpt.out 2).trans (show _ = some (.slice (some ⟨ub, 0, none⟩) 1 1) from rfl)
          have s3 := (cell_of_blk Hpt.out 3).trans (show _ = some (.slice la i lc) from rfl)
          have s4 := (cell_of_blk Hpt.out 4).trans (show _ = some (.string up) from rfl)
          have sz := fun j => frozen_of_blk Hpt.out j
          have t0 := (cell_of_blk HRt.out 0).trans (show _ = some (.int .i64 0) from rfl)
          have t1 := (cell_of_blk HRt.out 1).trans (show _ = some (.int .i64 0) from rfl)
          have t2 := (cell_of_blk HRt.out 2).trans (show _ = some (.slice none 0 0) from rfl)
          have t3 := (cell_of_blk HRt.out 3).trans (show _ = some (.slice none 0 0) from rfl)
          have t4 := (cell_of_blk HRt.out 4).trans (show _ = some (.string ⟨#[]⟩) from rfl)
          have tz := fun j => frozen_of_blk HRt.out j
          have hpr : pb ≠ w.heap.size + 1 := by omega
          by_cases hK3 : K ≤ 3
          · have dk1 : decide ((K : Int) ≤ 3) = true := decide_eq_true (by omega)
            have HF := Lib.hid (plan_end (up' := ⟨#[]⟩) (Hbt.out.setCell (p := ⟨pb, 4, none⟩) hwpb _) (blk_set4s Hpt.out ⟨#[]⟩) (blk_set_far HRt.out (by omega)) (own_set Hownt.out hpbb) (uz_set HUbt.out (by omega)) (by omega) (by omega) (by omega) (by omega))
            have HP : Hid (upP (planO U.l n) = ⟨#[]⟩) := Lib.hid (by unfold upP; rw [if_pos (by rw [← HKO.out]; exact hK3)])
            have Hi : Hid (i = min 3 (planO U.l n).length) := Lib.hid (by rw [← HKO.out]; have := Hik.out; omega)
            have hk3' : (K : Int) ≤ 3 := by omega
            go_wp2_with fail
            refine bodyPost_ret (v := .agg #[.int .i64 n, .int .i64 ((n : Int) + 1), .slice (some ⟨ub, 0, none⟩) 1 1, .slice la i lc, .string ⟨#[]⟩]) ?_ rfl ?_
            · exact results_cell_row Tryd.results24 _ _ (w.heap.size + 1) 34 _ (0, 0) _ rfl HF.out.1 Tryd.underlying34 rfl planInfo
            · exact Lib.hid (planIs_mk (by rw [← HqM.out]; exact HF.out.2.1) HF.out.2.2.1 Hi.out rfl HP.out HF.out.2.2.2 (by omega) (by omega))
          · have dk1 : decide ((K : Int) ≤ 3) = false := decide_eq_false (by omega)
            have Hi : Hid (i = min 3 (planO U.l n).length) := Lib.hid (by rw [← HKO.out]; have := Hik.out; omega)
            have Hup : Hid (upP (planO U.l n) = up) := Lib.hid (by
              unfold upP
              rw [if_neg (by rw [← HKO.out]; exact hK3)]
              have h3 : i = 3 := by have := Hik.out; omega
              have h4 := Hup0.out (by omega)
              rw [h3] at h4
              exact h4)
            have HF := Lib.hid (plan_end (up' := up) Hbt.out Hpt.out HRt.out Hownt.out HUbt.out (by omega) (by omega) (by omega) (by omega))
            go_wp2_with fail
            refine bodyPost_ret (v := .agg #[.int .i64 n, .int .i64 ((n : Int) + 1), .slice (some ⟨ub, 0, none⟩) 1 1, .slice la i lc, .string up]) ?_ rfl ?_
            · exact results_cell_row Tryd.results24 _ _ (w.heap.size + 1) 34 _ (0, 0) _ rfl HF.out.1 Tryd.underlying34 rfl planInfo
            · exact Lib.hid (planIs_mk (by rw [← HqM.out]; exact HF.out.2.1) HF.out.2.2.1 Hi.out rfl Hup.out HF.out.2.2.2 (by omega) (by omega))
        · have hi3n : ((i : Int) == 3) = false := by simp; omega
          rw [hi3n]
          have hio : i + 1 ≤ 3 := by omega
          obtain ⟨la2, lc2, w2, hrun, hown2, hg2⟩ := push_z wo W5.heap.size la i lc _ kz Hown.out (by omega) Hsr.out
          have hlow : ∀ g, (Value.slice la i lc).ownBlock = some g → W5.heap.size ≤ g := fun g e => (Hown.out.lt g e).1
          have hAz : Below wo.heap.size wo (wo.alloc (.cells #[.int .i64 kz] 3)) := (Below.refl _ _).alloc (Nat.le_refl _) _
          have hpb2 : w2.heap[pb]? = _ := (hg2.block pb (blk_lt (blk_bels hAz Hpb.out)) (fun e => by have := hlow pb e.symm; omega)).trans (blk_bels hAz Hpb.out)
          have hk2 : KeptT wo w2 := (KeptT.below hAz).trans (KeptT.grown (own_below Hown.out hAz) hg2 (by decide))
          have ho2 := hk2.same _ _ _ HO.out
          have hpb3 : (w2.setCell ⟨pb, 3, none⟩ (.slice la2 (i + 1) lc2)).heap[pb]? = some (.cells #[.int .i64 n, .int .i64 ((n : Int) + 1), .slice (some ⟨ub, 0, none⟩) 1 1, .slice la2 (i + 1) lc2, .string up] 34 (0, 0)) := (blk_set hpb2).trans rfl
          have ho3 : (w2.setCell ⟨pb, 3, none⟩ (.slice la2 (i + 1) lc2)).heap[ob]? = _ := blk_set_far ho2 (by omega)
          have HF : Hid (((w2.setCell ⟨pb, 3, none⟩ (.slice la2 (i + 1) lc2)).setCell ⟨pb, 4, none⟩ (.string kb.u)).heap[pb]? = some (.cells #[.int .i64 n, .int .i64 ((n : Int) + 1), .slice (some ⟨ub, 0, none⟩) 1 1, .slice la2 (i + 1) lc2, .string kb.u] 34 (0, 0)) ∧ OwnZ ((w2.setCell ⟨pb, 3, none⟩ (.slice la2 (i + 1) lc2)).setCell ⟨pb, 4, none⟩ (.string kb.u)) W5.heap.size (.slice la2 (i + 1) lc2) (((planO U.l n).take (i + 1)).map (·.z)) ∧ (0 < i + 1 → (((planO U.l n).getD (i + 1 - 1) Mt.nil).b.u) = kb.u) ∧ KeptT wv ((w2.setCell ⟨pb, 3, none⟩ (.slice la2 (i + 1) lc2)).setCell ⟨pb, 4, none⟩ (.string kb.u)) ∧ Below pb W5 ((w2.setCell ⟨pb, 3, none⟩ (.slice la2 (i + 1) lc2)).setCell ⟨pb, 4, none⟩ (.string kb.u)) ∧ W5.heap.size ≤ ((w2.setCell ⟨pb, 3, none⟩ (.slice la2 (i + 1) lc2)).setCell ⟨pb, 4, none⟩ (.string kb.u)).heap.size) := by
            refine Lib.hid ⟨blk_set4s hpb3 kb.u, ?_, fun _ => ?_, ((Hk.out.trans hk2).trans (KeptT.set hpb2 (by decide) _)).trans (KeptT.set hpb3 (by decide) _), ?_, ?_⟩
            · have e : ((planO U.l n).take (i + 1)).map (·.z) = ((planO U.l n).take i).map (·.z) ++ [kz] := by rw [List.take_add_one, Hpo.out, List.map_append]; rfl
              rw [e]
              exact own_set (own_set hown2 hpbb) hpbb
            · rw [Nat.add_sub_cancel, List.getD_eq_getElem?_getD, Hpo.out]; rfl
            · exact ((((Hb5r.out.alloc (Nat.le_trans (Nat.le_of_lt hpbb) Hsr.out) _).grown hg2 (Nat.le_trans (Nat.le_of_lt hpbb) (Nat.le_trans Hsr.out hAz.size)) (fun g e => by have := hlow g e; omega)).setCell (p := ⟨pb, 3, none⟩) (Nat.le_refl _) _).setCell (p := ⟨pb, 4, none⟩) (Nat.le_refl _) _)
            · rw [World.size_setCell, World.size_setCell]; exact Nat.le_trans (Nat.le_trans Hsr.out hAz.size) hg2.size
          have q3 := (cell_of_blk Hpb.out 3).trans (show _ = some (.slice la i lc) from rfl)
          have o0 := (cell_of_blk HO.out 0).trans (show _ = some (.int .i64 kz) from rfl)
          have q4 := (cell_of_blk hpb2 3).trans (show _ = some (.slice la i lc) from rfl)
          have q5 := frozen_of_blk hpb2 3
          have q6 := (cell_of_blk hpb3 4).trans (show _ = some (.string up) from rfl)
          have q7 := frozen_of_blk hpb3 4
          have o5 := (cell_of_blk ho3 5).trans (show _ = some (.string kb.u) from rfl)
          clear hown2 hg2 hlow hAz hpb2 hk2 ho2 hpb3 ho3 hi3n
          go_wp2_with (at_builtin; first | (refine wpList_val rfl _ _ (run_append_op (.tmp 51) (.tmp 54) 32 32 rfl rfl rfl hrun) ?_) | (refine wpList_val rfl _ _ (run_append_op (.tmp 51) (.tmp 54) 32 32 rfl (by simp) (by simp) hrun) ?_))
          go_roundw
          case rel => exact ⟨i + 1, by omega, by omega, by go_num, la2, lc2, kb.u, HF.out⟩
          case measure => simp [intOf]; omega
      · have Hik : Hid ((i = K ∧ K ≤ 3) ∨ (i = 3 ∧ 3 < K)) := Lib.hid (.inl ⟨by omega, by omega⟩)
        clear hsr
        have Hpbl := Lib.hid hpb
        have HVr := Lib.hid (blk_bels' hb5r HV5.out)
        have HMr := Lib.hid (blk_bels' hb5r HM5.out)
        have HRr := Lib.hid (blk_bels' hb5r HR5.out)
        have HUb : Hid (Uz wr0 ub mz) := Lib.hid ⟨blk_bels' hb5r HUz5.out⟩
        have hbwr : Below w.heap.size w wr0 := Hb5.out.trans (hb5r.mono hwpb)
        have Hbwr := Lib.hid hbwr
        have HUr := Lib.hid (HUw.out.below hbwr)
        have Hown := Lib.hid hown
        have Hup0 := Lib.hid hup
        clear hpb hb5r hown hk hup hbwr
        have c0 := (cell_of_blk HVr.out 0).trans (show _ = some (.slice va0 vn0 vc0) from rfl)
        have c1 := (cell_of_blk HVr.out 1).trans (show _ = some (.slice va1 vn1 vc1) from rfl)
        have c2 := (cell_of_blk HVr.out 2).trans (show _ = some (.slice va2 vn2 vc2) from rfl)
        have c3 := (cell_of_blk HVr.out 3).trans (show _ = some (.slice va3 vn3 vc3) from rfl)
        have m2 := (cell_of_blk HMr.out 2).trans (show _ = some (.string a.u) from rfl)
        have m5 := (cell_of_blk HMr.out 5).trans (show _ = some (.string b.u) from rfl)
        go_wp2_with fail
        refine (HOv.out _ HUr.out).mono ?_
        rintro e wt ⟨x2, rws2, rfl, hown2, hrw2, hbt⟩
        have hK2 : rws2.length = K := by have h1 := congrArg List.length hrw2; rw [List.length_map] at h1; rw [h1, HKO.out]; exact HPO.out
        obtain ⟨ta, tc, rfl⟩ := own_slice hown2.1
        rw [hK2]
        have Hpt := Lib.hid (blk_bels hbt Hpbl.out)
        have HRt := Lib.hid (blk_bels hbt HRr.out)
        have Hownt := Lib.hid (own_below Hown.out hbt)
        have HUbt := Lib.hid (HUb.out.below hbt)
        have Hbt := Lib.hid (Hbwr.out.trans (hbt.mono Hbwr.out.size))
        clear hown2 hrw2 hbt hK2 c0 c1 c2 c3 m2 m5
        have s0 := (cell_of_blk Hpt.out 0).trans (show _ = some (.int .i64 n) from rfl)
        have s1 := (cell_of_blk Hpt.out 1).trans (show _ = some (.int .i64 ((n : Int) + 1)) from rfl)
        have s2 := (cell_of_blk Hpt.out 2).trans (show _ = some (.slice (some ⟨ub, 0, none⟩) 1 1) from rfl)
        have s3 := (cell_of_blk Hpt.out 3).trans (show _ = some (.slice la i lc) from rfl)
        have s4 := (cell_of_blk Hpt.out 4).trans (show _ = some (.string up) from rfl)
        have sz := fun j => frozen_of_blk Hpt.out j
        have t0 := (cell_of_blk HRt.out 0).trans (show _ = some (.int .i64 0) from rfl)
        have t1 := (cell_of_blk HRt.out 1).trans (show _ = some (.int .i64 0) from rfl)
        have t2 := (cell_of_blk HRt.out 2).trans (show _ = some (.slice none 0 0) from rfl)
        have t3 := (cell_of_blk HRt.out 3).trans (show _ = some (.slice none 0 0) from rfl)
        have t4 := (cell_of_blk HRt.out 4).trans (show _ = some (.string ⟨#[]⟩) from rfl)
        have tz := fun j => frozen_of_blk HRt.out j
        have hpr : pb ≠ w.heap.size + 1 := by omega
        by_cases hK3 : K ≤ 3
        · have dk1 : decide ((K : Int) ≤ 3) = true := decide_eq_true (by omega)
          have HF := Lib.hid (plan_end (up' := ⟨#[]⟩) (Hbt.out.setCell (p := ⟨pb, 4, none⟩) hwpb _) (blk_set4s Hpt.out ⟨#[]⟩) (blk_set_far HRt.out (by omega)) (own_set Hownt.out hpbb) (uz_set HUbt.out (by omega)) (by omega) (by omega) (by omega) (by omega))
          have HP : Hid (upP (planO U.l n) = ⟨#[]⟩) := Lib.hid (by unfold upP; rw [if_pos (by rw [← HKO.out]; exact hK3)])
          have Hi : Hid (i = min 3 (planO U.l n).length) := Lib.hid (by rw [← HKO.out]; have := Hik.out; omega)
          have hk3' : (K : Int) ≤ 3 := by omega
          go_wp2_with fail
          refine bodyPost_ret (v := .agg #[.int .i64 n, .int .i64 ((n : Int) + 1), .slice (some ⟨ub, 0, none⟩) 1 1, .slice la i lc, .string ⟨#[]⟩]) ?_ rfl ?_
          · exact results_cell_row Tryd.results24 _ _ (w.heap.size + 1) 34 _ (0, 0) _ rfl HF.out.1 Tryd.underlying34 rfl planInfo
          · exact Lib.hid (planIs_mk (by rw [← HqM.out]; exact HF.out.2.1) HF.out.2.2.1 Hi.out rfl HP.out HF.out.2.2.2 (by omega) (by omega))
        · exact absurd (by have := Hik.out; omega) hK3
end Go.Proofs.YtcmndnglmpkpdaaDoor.Tithe
