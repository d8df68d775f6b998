/- THE LAW PickDown: walked. -/
import Derived.Test.YtcmndnglmpkpdaaDoorPickAwake
import Derived.Test.YtcmndnglmpkpdaaDoorPickDownP
namespace Go.Proofs.YtcmndnglmpkpdaaDoor.Tithe
open Go.RowKit Go.Sort Go.Shelf
set_option linter.unusedVariables false
set_option linter.unusedSimpArgs false
set_option maxRecDepth 100000
theorem isDz_len {W : World} {a : Option Addr} {n c : Nat} {zs : List Int} (h : IsDz W (.slice a n c) zs) : n = zs.length := by
  obtain ⟨a', c', e, -, -, -⟩ := h
  injection e
theorem isDz_at {W : World} {a : Option Addr} {n c : Nat} {zs : List Int} (h : IsDz W (.slice a n c) zs) (hl : 0 < n) : ∃ b off, a = some ⟨b, off, none⟩ ∧ ∀ i x, zs[i]? = some x → W.cell? ⟨b, off + i, none⟩ = some (.int .i64 x) := by
  have hn := isDz_len h
  obtain ⟨-, -, -, hx⟩ := h.at
  obtain ⟨b, off, e, hc⟩ := hx hl
  exact ⟨b, off, e, fun i x hi => IsDz.row1 hc hi⟩
theorem Ver.congr {L L' : Lv} (h : Ver L) (e : ∀ n, n < 4 → L' n = L n) : Ver L' := by
  refine ⟨fun n hn m hm => h.ok n hn m (by rw [← e n hn]; exact hm), fun z => ?_, fun n h1 hn => by rw [e n hn]; exact h.ap n h1 hn⟩
  have := h.one z
  unfold cL at this ⊢
  rwa [e 0 (by omega), e 1 (by omega), e 2 (by omega), e 3 (by omega)]
theorem own_low {W W' : World} {B base n size : Nat} {e : TypeId} {v : Value} {xs : List Value} (h : W.ownsRow base e size v n xs) (hb : Below B W W') (hlt : ∀ g, v.ownBlock = some g → g < B) : W'.ownsRow base e size v n xs := by
  refine ⟨h.1, ?_⟩
  rcases h.2 with h0 | ⟨g, cap, cur, hv, hb', hh, r⟩
  · exact .inl h0
  · exact .inr ⟨g, cap, cur, hv, hb', (hb.block g (hlt g (by rw [hv]; rfl))).trans hh, r⟩
theorem keptBut_set {W : World} {ob i : Nat} {v : Value} : KeptBut ob W (W.setCell ⟨ob, i, none⟩ v) := ⟨by rw [World.size_setCell]; exact Nat.le_refl _, fun b x hb hx => (Below.heap_setCell _ ⟨ob, i, none⟩ _ b hb).trans hx⟩
theorem own_keptB {W W' : World} {ob base n size : Nat} {e : TypeId} {v : Value} {xs : List Value} (h : W.ownsRow base e size v n xs) (hk : KeptBut ob W W') (hne : ∀ g, v.ownBlock = some g → g ≠ ob) : W'.ownsRow base e size v n xs := by
  refine ⟨h.1, ?_⟩
  rcases h.2 with h0 | ⟨g, cap, cur, hv, hb', hh, r⟩
  · exact .inl h0
  · exact .inr ⟨g, cap, cur, hv, hb', hk.same g _ (hne g (by rw [hv]; rfl)) hh, r⟩
theorem own_setT {W : World} {b i base n size : Nat} {v u : Value} {xs : List Value} {cs : Array Value} {fr : Nat × Nat} (h : W.ownsRow base 3 size v n xs) (hb : W.heap[b]? = some (.cells cs 56 fr)) : (W.setCell ⟨b, i, none⟩ u).ownsRow base 3 size v n xs := by
  refine ⟨h.1, ?_⟩
  rcases h.2 with h0 | ⟨g, cap, cur, hv, hb', hh, r⟩
  · exact .inl h0
  · exact .inr ⟨g, cap, cur, hv, hb', (Below.heap_setCell _ ⟨b, i, none⟩ _ g (by rintro rfl; rw [hb] at hh; injection hh with hh; injection hh with _ hh; exact absurd hh (by decide))).trans hh, r⟩
theorem HbW6 {w wo W : World} (h : Below w.heap.size w wo) (h2 : Below wo.heap.size wo W) : Below w.heap.size w W := h.trans (h2.mono h.size)
theorem cell_keptB {W W' : World} {ob b i : Nat} {v : Value} (hk : KeptBut ob W W') (hne : b ≠ ob) (h : W.cell? ⟨b, i, none⟩ = some v) : W'.cell? ⟨b, i, none⟩ = some v := by
  have hlt : b < W.heap.size := block_lt_of_cell h
  have hh : W'.heap[b]? = W.heap[b]? := by rw [Array.getElem?_eq_getElem hlt]; exact hk.same b _ hne (Array.getElem?_eq_getElem hlt)
  rw [← h]
  simp only [World.cell?, hh]
/-- all blocks but those of numbers and of edits are kept -/
structure KeptQ (W W' : World) : Prop where
  size : W.heap.size ≤ W'.heap.size
  same : ∀ (b : Nat) (cs : Array Value) (t : TypeId) (fr : Nat × Nat), t ≠ 3 → t ≠ 56 → W.heap[b]? = some (.cells cs t fr) → W'.heap[b]? = some (.cells cs t fr)
theorem KeptQ.refl (W : World) : KeptQ W W := ⟨Nat.le_refl _, fun _ _ _ _ _ _ h => h⟩
theorem KeptQ.trans {A B C : World} (h : KeptQ A B) (k : KeptQ B C) : KeptQ A C := ⟨Nat.le_trans h.size k.size, fun b cs t fr h1 h2 q => k.same b cs t fr h1 h2 (h.same b cs t fr h1 h2 q)⟩
theorem KeptQ.below {A B : World} (h : Below A.heap.size A B) : KeptQ A B := ⟨h.size, fun b cs t fr _ _ q => blk_bels h q⟩
theorem KeptQ.set {W : World} {b i : Nat} {cs : Array Value} {fr : Nat × Nat} (h : W.heap[b]? = some (.cells cs 56 fr)) (v : Value) : KeptQ W (W.setCell ⟨b, i, none⟩ v) :=
  ⟨by rw [World.size_setCell]; exact Nat.le_refl _, fun b' cs' t' fr' _ h2 q => (Below.heap_setCell _ ⟨b, i, none⟩ _ b' (by rintro rfl; rw [h] at q; injection q with q; injection q with q1 q2; exact h2 q2.symm)).trans q⟩
theorem KeptQ.grown {W W' : World} {base n : Nat} {size : Nat} {v : Value} {xs : List Value} (h : W.ownsRow base 3 size v n xs) (hg : W.grownBy W' v.ownBlock) : KeptQ W W' :=
  ⟨hg.size, fun b cs t fr h1 _ q => (hg.block b (blk_lt q) (fun e' => by
    obtain ⟨cur, hc⟩ := own_rowblk h b e'.symm
    rw [hc] at q; injection q with q; injection q with q1 q2; exact h1 q2.symm)).trans q⟩
theorem own_keptQ {W W' : World} {base n size : Nat} {v : Value} {xs : List Value} (h : W.ownsRow base 49 size v n xs) (hk : KeptQ W W') : W'.ownsRow base 49 size v n xs := by
  refine ⟨h.1, ?_⟩
  rcases h.2 with h0 | ⟨g, cap, cur, hv, hb, hh, r⟩
  · exact .inl h0
  · exact .inr ⟨g, cap, cur, hv, hb, hk.same _ _ _ _ (by decide) (by decide) hh, r⟩
theorem isPl_blk {X : World} {pb : Nat} {lv : Int} {r : Mr} (h : X.heap[pb]? = some (.cells (plC (lv, r)).toArray 53 (0, 0))) (hr : IsRr X r.2 r.1.refs) : IsPl X (.slice (some ⟨pb, 0, none⟩) 1 1) [(lv, r)] := by
  refine ⟨⟨_, _, rfl, Nat.le_refl _, by unfold maxLen; simp, fun _ => ⟨pb, 0, rfl, fun i x hx j y hj => ?_⟩⟩, fun p hp => ?_⟩
  · match i, hx with
    | 0, hx =>
      injection hx with hx
      subst hx
      rw [show 0 + 0 * 10 + j = j by omega, cell_of_blk h j]
      simpa using hj
  · rw [List.mem_singleton.1 hp]; exact hr
/-- where the walk stands ahead of a round -/
structure DnW (w : World) (vb : Nat) (V : Vn) (k : Nat) (W : World) : Prop where
  blk : W.heap[vb]? = some (.cells V.cells 26 (0, 0))
  vn : IsVn W V
  ver : Ver (lvOf V.l)
  rb : RefB (lvOf V.l)
  mu : mu (lvOf V.l) + k ≤ 192
  lt : w.heap.size ≤ vb
  bel : Below w.heap.size w W
theorem dnW_put {w W : World} {vb k : Nat} {V U : Vn} {L1 : Lv} {aa0 aa1 aa2 aa3 : Option Addr} {an0 an1 an2 an3 ac0 ac1 ac2 ac3 : Nat} (h : W.heap[vb]? = some (.cells V.cells 26 (0, 0))) (hs : Slv V.cells) (hU : IsVn W U) (hc : U.cells = #[.slice aa0 an0 ac0, .slice aa1 an1 ac1, .slice aa2 an2 ac2, .slice aa3 an3 ac3]) (hu : ∀ n, n < 4 → lvOf U.l n = L1 n) (hv : Ver L1) (hr : RefB L1) (hm : mu L1 + (k + 1) ≤ 192) (hlt : w.heap.size ≤ vb) (hb : Below w.heap.size w W) :
    DnW w vb U (k + 1) ((((W.setCell ⟨vb, 0, none⟩ (.slice aa0 an0 ac0)).setCell ⟨vb, 1, none⟩ (.slice aa1 an1 ac1)).setCell ⟨vb, 2, none⟩ (.slice aa2 an2 ac2)).setCell ⟨vb, 3, none⟩ (.slice aa3 an3 ac3)) := by
  refine ⟨?_, isVn_far4 hU h hs ⟨_, _, _, rfl⟩ ⟨_, _, _, rfl⟩ ⟨_, _, _, rfl⟩, hv.congr hu, fun n hn m hm => hr n hn m (by rw [← hu n hn]; exact hm), ?_, hlt, (((hb.setCell (p := ⟨vb, 0, none⟩) hlt _).setCell (p := ⟨vb, 1, none⟩) hlt _).setCell (p := ⟨vb, 2, none⟩) hlt _).setCell (p := ⟨vb, 3, none⟩) hlt _⟩
  · rw [hc]; exact (blk_set (blk_set (blk_set (blk_set h)))).trans rfl
  · unfold mu at hm ⊢
    rw [hu 0 (by omega), hu 1 (by omega), hu 2 (by omega)]; exact hm
theorem wth_le (l : Nat → List Mr) : ∀ i, wthN l i ≤ i
  | 0 => Nat.le_refl _
  | i + 1 => by
    show wthN l i + _ ≤ i + 1
    have := wth_le l i
    split <;> omega
attribute [local go_sem] Oper.semAt_some
set_option maxHeartbeats 12800000 in
theorem pickDown_walk (v : Value) (l : List Ed) (w : World) (h : IsEd w v l) (ht : TabOk w) :
    Calls Tryd.prog 6 #[v] w fun e w' => e = .returned (.bool true) ∧ Below w.heap.size w w' := by
  have Hp := Lib.hid (play17_any v l w h)
  have Ht := Lib.hid ht
  clear h ht
  go_enter Tryd.func6, Tryd.ntmps6
  go_wp2_with fail
  refine Hp.out.mono ?_
  rintro e w1 q
  have q := q.out
  unfold PkOut at q
  cases hsm : smallB l with
  | false =>
    rw [hsm, if_neg (by decide)] at q
    obtain ⟨a0, n0, c0, a1, n1, c1, a2, n2, c2, a3, n3, c3, p, rfl, hb⟩ := q
    have Hb := Lib.hid (hb.alloc hb.size (.cells #[.slice a0 n0 c0, .slice a1 n1 c1, .slice a2 n2 c2, .slice a3 n3 c3] 26))
    have Ht2 := Lib.hid (Ht.out.below Hb.out)
    clear hb hsm Hp
    go_wp2_with fail
    refine (awake17_any _ Ht2.out).mono ?_
    rintro e w2 ⟨rfl, hb2⟩
    have Hb2 := Lib.hid (Hb.out.trans (hb2.mono Hb.out.size))
    clear hb2
    go_wp2_with fail
    go_ret
    exact ⟨rfl, Hb2.out⟩
  | true =>
    rw [hsm, if_pos rfl] at q
    obtain ⟨U, X, xb, rfl, hxb, hU, hX, heU, heX, hsx, hb⟩ := q
    have HPk := Lib.hid (playP_ok hsm l.length (Nat.le_refl _))
    have hT := lvS_tabs HPk.out.1 heU
    have hver : Ver (lvOf U.l) := ver_of (by rw [verOkP_congr heU]; exact HPk.out.2)
    have hrb : RefB (lvOf U.l) := fun n hn m hm => by
      obtain ⟨r, hr, rfl⟩ := List.mem_map.1 hm
      have := (hT.2 _ (mem_tabs _ hn hr)).1
      dsimp only at this; omega
    obtain ⟨va0, vn0, vc0, va1, vn1, vc1, va2, vn2, vc2, va3, vn3, vc3, hc⟩ := isVn_agg' hU
    have HA := Lib.hid ((Below.refl w1.heap.size w1).alloc (Nat.le_refl _) (.cells U.cells 26))
    have HD : Hid (DnW w w1.heap.size U 0 (w1.alloc (.cells U.cells 26))) := Lib.hid ⟨blk_of_alloc w1 _, hU.below HA.out, hver, hrb, by have := mu_le hver; omega, hb.size, hb.alloc hb.size _⟩
    obtain ⟨vb, hvb⟩ : ∃ vb, vb = w1.heap.size := ⟨_, rfl⟩
    have Hvb := Lib.hid hvb
    rw [← hvb] at HD
    rw [hc] at HD ⊢
    clear hsm hxb hU hX heU heX hsx hb hT hc hvb Hp hver hrb HA HPk
    go_upto_region 5 with fail
    rw [← Hvb.out]
    generalize w1.alloc (.cells #[.slice va0 vn0 vc0, .slice va1 vn1 vc1, .slice va2 vn2 vc2, .slice va3 vn3 vc3] 26) = W3 at *
    clear Hvb
    generalize (Value.tuple #[.agg #[.slice va0 vn0 vc0, .slice va1 vn1 vc1, .slice va2 vn2 vc2, .slice va3 vn3 vc3], .pointer (some ⟨xb, 0, none⟩), .bool true]) = dead1
    generalize (Value.agg #[.slice va0 vn0 vc0, .slice va1 vn1 vc1, .slice va2 vn2 vc2, .slice va3 vn3 vc3]) = dead2
    generalize (Value.pointer (some ⟨xb, 0, none⟩)) = dead3
    go_loopw [30] (fun kv wr => ∃ k : Nat, k ≤ 192 ∧ kv = .int .i64 k ∧ ∃ V : Vn, DnW w vb V k wr) (fun kv _ => 400 - (intOf kv).toNat)
    case atStart => exact ⟨0, by omega, rfl, U, HD.out⟩
    case round =>
      clear HD
      obtain ⟨wo, rfl⟩ : ∃ wo : World, wo = wr := ⟨_, rfl⟩
      obtain ⟨k, hk, rfl, V, hD⟩ := hrel
      have HD := Lib.hid hD
      have hl : (tabs V.l 4).length ≤ 100000 := by rw [cnt_tabs]; have := cnt_le hD.ver; omega
      have hrl : ∀ p ∈ tabs V.l 4, p.2.1.refs.length ≤ 1000000 := fun p hp => by
        obtain ⟨h1, h2⟩ := tabs_mem hp
        exact hD.rb _ h1 _ (List.mem_map.2 ⟨p.2, h2, rfl⟩)
      obtain ⟨xa0, xn0, xc0, xa1, xn1, xc1, xa2, xn2, xc2, xa3, xn3, xc3, hc⟩ := isVn_agg' hD.vn
      have Hc := Lib.hid hc
      have HV : Hid (wo.heap[vb]? = some (.cells #[.slice xa0 xn0 xc0, .slice xa1 xn1 xc1, .slice xa2 xn2 xc2, .slice xa3 xn3 xc3] 26 (0, 0))) := Lib.hid (by rw [← hc]; exact hD.blk)
      have HPr : Hid (Calls Tryd.prog 13 #[.agg #[.slice xa0 xn0 xc0, .slice xa1 xn1 xc1, .slice xa2 xn2 xc2, .slice xa3 xn3 xc3]] wo fun e w' => Hid (NextOut wo V.l (pressN V.l) e w')) := Lib.hid (by rw [← hc]; exact press_any V wo hD.vn hl hrl)
      have HOv : Hid (∀ (n : Int) (s g : ByteArray) (A : World), Below wo.heap.size wo A → Calls Tryd.prog 17 #[.agg #[.slice xa0 xn0 xc0, .slice xa1 xn1 xc1, .slice xa2 xn2 xc2, .slice xa3 xn3 xc3], .int .i64 n, .string s, .string g] A fun e w' => ∃ x rows, e = .returned x ∧ OwnMs w' A.heap.size x rows ∧ rows.map (·.1) = ((tabs V.l 4).filter (overB n s g)).map (·.2.1) ∧ Below A.heap.size A w') := Lib.hid (fun n s g A hA => by rw [← hc]; exact over_any V n s g A (hD.vn.below hA) hl hrl)
      have Hl : Hid ((tabs V.l 4).length ≤ 100000 ∧ ∀ p ∈ tabs V.l 4, p.2.1.refs.length ≤ 1000000) := Lib.hid ⟨hl, hrl⟩
      have hk4 : (k : Int) < 400 := by omega
      clear hD hc hl hrl
      have c0 := (cell_of_blk HV.out 0).trans (show _ = some (.slice xa0 xn0 xc0) from rfl)
      have c1 := (cell_of_blk HV.out 1).trans (show _ = some (.slice xa1 xn1 xc1) from rfl)
      have c2 := (cell_of_blk HV.out 2).trans (show _ = some (.slice xa2 xn2 xc2) from rfl)
      have c3 := (cell_of_blk HV.out 3).trans (show _ = some (.slice xa3 xn3 xc3) from rfl)
      go_wp2_with fail
      refine HPr.out.mono ?_
      rintro e w2 q
      obtain ⟨cs, b, rfl, ho, hb2⟩ := q.out
      clear q c0 c1 c2 c3 HPr
      cases hpn : pressN V.l with
      | none =>
        rw [hpn] at ho
        obtain ⟨rfl, ua, un, uc, la, ln, lc, e1, -, -⟩ := ho
        subst e1
        generalize Pn.zero = p
        have HE := Lib.hid (wth_end hpn)
        have Hb6 := Lib.hid (hb2.alloc hb2.size (.cells #[.int .i64 p.frm, .int .i64 p.dest, .slice ua un uc, .slice la ln lc, .string p.upto] 34))
        clear hb2 hpn
        go_upto_region 7 with fail
        generalize w2.alloc (.cells #[.int .i64 p.frm, .int .i64 p.dest, .slice ua un uc, .slice la ln lc, .string p.upto] 34) = W6 at *
        have HV6 := Lib.hid (blk_bels Hb6.out HV.out)
        have Hb6w := Lib.hid (HD.out.bel.trans (Hb6.out.mono HD.out.bel.size))
        have Ht6 := Lib.hid (Ht.out.below Hb6w.out)
        have hn0 : xn0 = 0 := by
          have h1 := HE.out.2
          obtain ⟨sa, sc, hsv⟩ := isMr_slice (HD.out.vn 0 (by omega))
          rw [h1] at hsv
          have h2 := Hc.out
          unfold Vn.cells at h2
          rw [hsv] at h2
          injection h2 with h2
          injection h2 with h2 _
          injection h2 with _ h2 _
          exact h2.symm
        subst hn0
        have Hln : Hid (∀ i : Nat, i < 4 → (V.l i).length ≤ 100000) := Lib.hid (fun i hi => by have := (Hl.out).1; have := tabs_len (l := V.l) hi; omega)
        have c0 := (cell_of_blk HV6.out 0).trans (show _ = some (.slice xa0 0 xc0) from rfl)
        have c1 := (cell_of_blk HV6.out 1).trans (show _ = some (.slice xa1 xn1 xc1) from rfl)
        have c2 := (cell_of_blk HV6.out 2).trans (show _ = some (.slice xa2 xn2 xc2) from rfl)
        have c3 := (cell_of_blk HV6.out 3).trans (show _ = some (.slice xa3 xn3 xc3) from rfl)
        go_upto_region 10 with fail
        clear c0 c1 c2 c3
        go_loop [8, 41] (fun tv iv => ∃ i : Nat, i ≤ 4 ∧ iv = .int .i64 i ∧ tv = .int .i64 (wthN V.l i)) (fun _ iv => 4 - (intOf iv).toNat)
        case atStart => exact ⟨0, by omega, rfl, rfl⟩
        case round =>
          obtain ⟨i, hi, rfl, rfl⟩ := hrel
          by_cases hi4 : i < 4
          · obtain ⟨sa, sc, hix⟩ : ∃ sa sc, ∀ W, (Instr.index 24 (.agg #[.slice xa0 0 xc0, .slice xa1 xn1 xc1, .slice xa2 xn2 xc2, .slice xa3 xn3 xc3]) (.int .i64 i)).run Tryd.prog W = .ok (.slice sa (V.l i).length sc) W := by
              obtain ⟨sa, sc, hsv⟩ := isMr_slice (HD.out.vn i hi4)
              exact ⟨sa, sc, fun W => by rw [← Hc.out]; have := index_vn V hi4 W; rw [hsv] at this; exact this⟩
            have hi4' : (i : Int) < 4 := by omega
            obtain ⟨K, hK⟩ : ∃ K, K = (V.l i).length := ⟨_, rfl⟩
            have Hs : Hid (wthN V.l (i + 1) = wthN V.l i + if 0 < K then 1 else 0) := Lib.hid (by rw [hK]; rfl)
            have hwle : wthN V.l i ≤ i := wth_le V.l i
            have hKl : K ≤ 100000 := by rw [hK]; exact Hln.out i hi4
            rw [← hK] at hix
            clear hK
            generalize wthN V.l i = T at *
            by_cases hk0 : 0 < K
            · have e1 : decide ((K : Int) > 0) = true := decide_eq_true (by omega)
              have e2 : decide ((0 : Int) < (K : Int)) = true := decide_eq_true (by omega)
              go_wp2_with fail
              go_round
              case rel => exact ⟨i + 1, by omega, by go_num, by rw [Hs.out, if_pos hk0]; go_num⟩
              case measure => simp [intOf]; omega
            · have e1 : decide ((K : Int) > 0) = false := decide_eq_false (by omega)
              have e2 : decide ((0 : Int) < (K : Int)) = false := decide_eq_false (by omega)
              go_wp2_with fail
              go_round
              case rel => exact ⟨i + 1, by omega, by go_num, by rw [Hs.out, if_neg hk0]; rfl⟩
              case measure => simp [intOf]; omega
          · obtain rfl : i = 4 := by omega
            have h1 := HE.out.1
            generalize wthN V.l 4 = T at *
            have e1 : decide ((T : Int) ≤ 1) = true := decide_eq_true (by omega)
            have e2 : (T : Int) ≤ 1 := by omega
            have c0 := (cell_of_blk HV6.out 0).trans (show _ = some (.slice xa0 0 xc0) from rfl)
            go_wp2_with fail
            refine (awake17_any _ Ht6.out).mono ?_
            rintro e wz ⟨rfl, hbz⟩
            have Hbz := Lib.hid (Hb6w.out.trans (hbz.mono Hb6w.out.size))
            clear hbz
            go_wp2_with fail
            go_ret
            exact ⟨rfl, Hbz.out⟩
      | some n =>
        obtain ⟨hn3, hlen⟩ := pressN_len hpn
        rw [hpn] at ho
        obtain ⟨rfl, ua, un, uc, la, ln, lc, e1, ⟨hu0, -, huo0⟩, -⟩ := ho
        subst e1
        have HqM := Lib.hid (planM_mem hlen)
        have hthe := fun r (hr : r ∈ V.l n) (hz : r.1.z = (planM V.l n).1.z) => plan_the (by rw [verOk_lv]; exact ver_to HD.out.ver) hn3 hlen hr hz
        obtain ⟨q, hq⟩ : ∃ q, q = planM V.l n := ⟨_, rfl⟩
        have hu : IsDz w2 (.slice ua un uc) [q.1.z] := by rw [hq]; exact hu0
        have huo : OwnZ w2 wo.heap.size (.slice ua un uc) [q.1.z] := by rw [hq]; exact huo0
        rw [← hq] at HqM hthe
        rw [show (planP V.l n).frm = (n : Int) from rfl, show (planP V.l n).dest = (n : Int) + 1 from rfl]
        generalize (planP V.l n).upto = pt at *
        clear hpn hq hu0 huo0
        obtain ⟨qra, qrc, hqv, -, -, -⟩ := (HD.out.vn n (by omega)).2 q HqM.out
        obtain ⟨⟨qz, qn, qa, qb, qrefs⟩, qv⟩ := q
        dsimp only at hqv hu huo hthe
        obtain ⟨qrn, hqrn⟩ : ∃ n, n = qrefs.length := ⟨_, rfl⟩
        rw [← hqrn] at hqv
        subst hqv
        have Hthe := Lib.hid hthe
        have hun := isDz_len hu
        rw [List.length_singleton] at hun
        subst hun
        obtain ⟨ub, uoff, rfl, huc⟩ := isDz_at hu (by omega)
        have huc0 : w2.cell? ⟨ub, uoff, none⟩ = some (.int .i64 qz) := by have := huc 0 _ rfl; rwa [Nat.add_zero] at this
        have hA6 : Below w2.heap.size w2 (w2.alloc (.cells #[.int .i64 n, .int .i64 ((n : Int) + 1), .slice (some ⟨ub, uoff, none⟩) 1 uc, .slice la ln lc, .string pt] 34)) := (Below.refl _ _).alloc (Nat.le_refl _) _
        have Hb6 := Lib.hid (hb2.alloc hb2.size (.cells #[.int .i64 n, .int .i64 ((n : Int) + 1), .slice (some ⟨ub, uoff, none⟩) 1 uc, .slice la ln lc, .string pt] 34))
        have Hu6 := Lib.hid ((hA6.cell (block_lt_of_cell huc0)).trans huc0)
        have Huo6 := Lib.hid (own_below huo hA6)
        have HT6 := Lib.hid (blk_of_alloc w2 (.cells #[.int .i64 n, .int .i64 ((n : Int) + 1), .slice (some ⟨ub, uoff, none⟩) 1 uc, .slice la ln lc, .string pt] 34))
        obtain ⟨tb, htb⟩ : ∃ o, o = w2.heap.size := ⟨_, rfl⟩
        have Htb := Lib.hid htb
        rw [← htb] at HT6
        clear hb2 hu huo huc huc0 hA6 htb hqrn hthe
        go_upto_region 7 with fail
        rw [← Htb.out]
        generalize w2.alloc (.cells #[.int .i64 n, .int .i64 ((n : Int) + 1), .slice (some ⟨ub, uoff, none⟩) 1 uc, .slice la ln lc, .string pt] 34) = W6 at *
        clear Htb
        generalize (Value.tuple #[.agg #[.int .i64 n, .int .i64 ((n : Int) + 1), .slice (some ⟨ub, uoff, none⟩) 1 uc, .slice la ln lc, .string pt], .bool true]) = dead4
        generalize (Value.agg #[.int .i64 n, .int .i64 ((n : Int) + 1), .slice (some ⟨ub, uoff, none⟩) 1 uc, .slice la ln lc, .string pt]) = dead5
        generalize (Value.agg #[.slice xa0 xn0 xc0, .slice xa1 xn1 xc1, .slice xa2 xn2 xc2, .slice xa3 xn3 xc3]) = dead6
        have HA11 := Lib.hid ((Below.refl W6.heap.size W6).alloc (Nat.le_refl _) (.cells #[.int .i64 0, .int .i64 0, .string ⟨#[]⟩, .int .i64 0, .int .i64 0, .string ⟨#[]⟩, .int .i64 0, .int .i64 0, .slice none 0 0] 49))
        have Hb11 := Lib.hid (Hb6.out.trans (HA11.out.mono Hb6.out.size))
        have HM11 := Lib.hid (blk_of_alloc W6 (.cells #[.int .i64 0, .int .i64 0, .string ⟨#[]⟩, .int .i64 0, .int .i64 0, .string ⟨#[]⟩, .int .i64 0, .int .i64 0, .slice none 0 0] 49))
        have HT11 := Lib.hid (blk_bels HA11.out HT6.out)
        have Hu11 := Lib.hid ((HA11.out.cell (block_lt_of_cell Hu6.out)).trans Hu6.out)
        have Huo11 := Lib.hid (own_below Huo6.out HA11.out)
        have hubW := block_lt_of_cell Hu6.out
        have htbW := blk_lt HT6.out
        have hwoW := Hb6.out.size
        obtain ⟨mb, hmb⟩ : ∃ o, o = W6.heap.size := ⟨_, rfl⟩
        have Hmb := Lib.hid hmb
        rw [← hmb] at HM11 hubW htbW hwoW
        have hubm : ub < mb := hubW
        clear hmb Hu6 Huo6 HT6 HA11 hubW
        go_upto_region 17 with fail
        rw [← Hmb.out]
        generalize W6.alloc (.cells #[.int .i64 0, .int .i64 0, .string ⟨#[]⟩, .int .i64 0, .int .i64 0, .string ⟨#[]⟩, .int .i64 0, .int .i64 0, .slice none 0 0] 49) = W11 at *
        clear Hmb Hb6
        obtain ⟨sa, sc, hcn, hmr⟩ : ∃ sa sc, W11.cell? ⟨vb, n, none⟩ = some (.slice sa (V.l n).length sc) ∧ IsMr wo (.slice sa (V.l n).length sc) (V.l n) := by
          have hmr := HD.out.vn n (by omega)
          obtain ⟨sa, sc, hsv⟩ := isMr_slice hmr
          refine ⟨sa, sc, (cell_of_blk (blk_bels Hb11.out HV.out) n).trans (by rw [← Hc.out, vn_cell V (by omega), hsv]), by rw [← hsv]; exact hmr⟩
        have hn4 : (n : Int) < 4 := by omega
        obtain ⟨K, hK⟩ : ∃ K, K = (V.l n).length := ⟨_, rfl⟩
        rw [← hK] at hcn hmr
        have hKl : K ≤ 100000 := by rw [hK]; have := Hl.out.1; have := tabs_len (l := V.l) (show n < 4 by omega); omega
        have HK := Lib.hid hK
        have hMx := hmr.1.at
        have HMx := Lib.hid hMx.2.2.2
        have HMr := Lib.hid hmr.2
        have hKm := hMx.2.1
        have hKm2 := hMx.2.2.1
        clear hK hMx hmr
        have t0 := (cell_of_blk HT11.out 0).trans (show _ = some (.int .i64 n) from rfl)
        go_wp2_with fail
        clear t0 hcn
        go_loopw [68] (fun jv wr => ∃ j : Nat, j ≤ K ∧ jv = .int .i64 j ∧ ∃ mz mn ma mk mv, wr.heap[mb]? = some (.cells #[.int .i64 mz, .int .i64 mn, .string ma.u, .int .i64 ma.s, .int .i64 ma.k, .string mk.u, .int .i64 mk.s, .int .i64 mk.k, mv] 49 (0, 0)) ∧ ((∀ i : Nat, i < j → (V.l n)[i]? ≠ some (⟨qz, qn, qa, qb, qrefs⟩, .slice qra qrn qrc)) ∨ (mz = qz ∧ mn = qn ∧ ma = qa ∧ mk = qb ∧ mv = .slice qra qrn qrc)) ∧ Below mb W11 wr ∧ mb < wr.heap.size) (fun jv _ => K - (intOf jv).toNat)
        case atStart => exact ⟨0, Nat.zero_le _, rfl, 0, 0, Ky.nil, Ky.nil, .slice none 0 0, HM11.out, .inl (fun i hi => absurd hi (Nat.not_lt_zero _)), Below.refl _ _, blk_lt HM11.out⟩
        case round =>
          obtain ⟨wq, rfl⟩ : ∃ wq : World, wq = wr := ⟨_, rfl⟩
          obtain ⟨j, hj, rfl, mz, mn, ma, mk, mv, hmb, hor, hbq, hmlt⟩ := hrel
          have HMb := Lib.hid hmb
          have Hor := Lib.hid hor
          have Hbq := Lib.hid hbq
          have HbO := Lib.hid (Hb11.out.trans (hbq.mono hwoW))
          clear hmb hor
          by_cases hjK : j < K
          · obtain ⟨bb, off, rfl, hcell⟩ := HMx.out (by omega)
            obtain ⟨r, hr⟩ : ∃ r, (V.l n)[j]? = some r := ⟨_, List.getElem?_eq_getElem (by rw [← HK.out]; exact hjK)⟩
            obtain ⟨d0, d1, d2, d3, d4, d5, d6, d7, d8⟩ := IsMr.row (w := wq) (fun i x hi j y hj => (HbO.out.cell (block_lt_of_cell (hcell i x hi j y hj))).trans (hcell i x hi j y hj)) hr
            obtain ⟨mra, mrc, hrv, -, -, -⟩ := HMr.out r (List.mem_of_getElem? hr)
            have hthe := Hthe.out r (List.mem_of_getElem? hr)
            have Hr := Lib.hid hr
            obtain ⟨⟨rz, rn, rka, rkb, refs⟩, vr⟩ := r
            dsimp only at d0 d1 d2 d3 d4 d5 d6 d7 d8 hrv hthe
            have Hthe2 := Lib.hid hthe
            obtain ⟨rrn, hrrn⟩ : ∃ n, n = refs.length := ⟨_, rfl⟩
            rw [← hrrn] at hrv
            subst hrv
            have hAl : Below wq.heap.size wq (wq.alloc (.cells #[.int .i64 rz, .int .i64 rn, .string rka.u, .int .i64 rka.s, .int .i64 rka.k, .string rkb.u, .int .i64 rkb.s, .int .i64 rkb.k, .slice mra rrn mrc] 49)) := (Below.refl _ _).alloc (Nat.le_refl _) _
            have HbS := Lib.hid (hbq.trans (hAl.mono (Nat.le_of_lt hmlt))).drew
            have HS := Lib.hid (drew_blk (blk_of_alloc wq (.cells #[.int .i64 rz, .int .i64 rn, .string rka.u, .int .i64 rka.s, .int .i64 rka.k, .string rkb.u, .int .i64 rkb.s, .int .i64 rkb.k, .slice mra rrn mrc] 49)))
            have HMb2 := Lib.hid (drew_blk (blk_bels hAl HMb.out))
            have HT13 := Lib.hid ((hbq.trans (hAl.mono (Nat.le_of_lt hmlt))).block _ htbW |>.trans HT11.out)
            have hu13 := ((hbq.trans (hAl.mono (Nat.le_of_lt hmlt))).cell (p := ⟨ub, uoff, none⟩) hubm).trans Hu11.out
            have HS0 := Lib.hid (blk_of_alloc wq (.cells #[.int .i64 rz, .int .i64 rn, .string rka.u, .int .i64 rka.s, .int .i64 rka.k, .string rkb.u, .int .i64 rkb.s, .int .i64 rkb.k, .slice mra rrn mrc] 49))
            have hmlt2 : mb < (wq.alloc (.cells #[.int .i64 rz, .int .i64 rn, .string rka.u, .int .i64 rka.s, .int .i64 rka.k, .string rkb.u, .int .i64 rkb.s, .int .i64 rkb.k, .slice mra rrn mrc] 49)).drew.heap.size := Nat.lt_of_lt_of_le hmlt hAl.size
            have Hmlt2 := Lib.hid hmlt2
            obtain ⟨sb, hsb⟩ : ∃ o, o = wq.heap.size := ⟨_, rfl⟩
            have Hsb := Lib.hid hsb
            rw [← hsb] at HS HS0
            clear hr hcell hbq hmlt hmlt2 hsb hthe hAl hrrn
            go_upto_region 20 with fail
            rw [← Hsb.out]
            generalize wq.alloc (.cells #[.int .i64 rz, .int .i64 rn, .string rka.u, .int .i64 rka.s, .int .i64 rka.k, .string rkb.u, .int .i64 rkb.s, .int .i64 rkb.k, .slice mra rrn mrc] 49) = W13 at *
            clear Hsb d0 d1 d2 d3 d4 d5 d6 d7 d8
            have g0 := (cell_of_blk HS0.out 0).trans (show _ = some (.int .i64 rz) from rfl)
            have g2 := (cell_of_blk HT13.out 2).trans (show _ = some (.slice (some ⟨ub, uoff, none⟩) 1 uc) from rfl)
            clear HS0 HT13
            by_cases hz : rz = qz
            · have he := Hthe2.out hz
              injection he with he1 he2
              injection he1 with e1 e2 e3 e4 e5
              injection he2 with e6 e7 e8
              subst e1 e2 e3 e4 e5 e6 e7 e8
              clear hz
              refine wp_region_held_drew (S := fun V' => Hid (Below W13.heap.size W13 V')) (by kernel_rfl) (Lib.hid ((Below.refl _ _).drew)) (fun hS0 => ?_)
              refine wpAnyH_take (i := 0) (oi := { dst := some 72, op := Op.fieldAddr 49 (Operand.tmp 13) 0, type := 0, pos := "law.go:237", after := #[], guard := none }) (v := ?_) rfl (by kernel_rfl) (by kernel_rfl) (by kernel_rfl) (fun _ _ _ h => h) (Or.inl ⟨by rfl, ?hy1⟩) hS0 ?_
              case hy1 => (intro V hSw; (try dsimp only at hSw); clear hSw; go_simp; try with_reducible rfl)
              try simp only [Act.put, List.setIfInBounds_toArray, List.set_cons_zero, List.set_cons_succ]
              refine wpAnyH_take (i := 1) (oi := { dst := some 73, op := Op.load 3 (Operand.tmp 72), type := 3, pos := "law.go:237", after := #[{ on := 0, ground := Ground.data }], guard := none }) (v := ?_) rfl (by kernel_rfl) (by kernel_rfl) (by kernel_rfl) (fun _ _ _ h => h) (Or.inl ⟨by rfl, ?hy2⟩) hS0 ?_
              case hy2 => (intro V hSw; (try dsimp only at hSw); have q0 := grow_cell hSw.out (block_lt_of_cell g0) g0; have q1 := grow_cell hSw.out (block_lt_of_cell g2) g2; have q2 := grow_cell hSw.out (block_lt_of_cell hu13) hu13; clear hSw; go_simp; try with_reducible rfl)
              try simp only [Act.put, List.setIfInBounds_toArray, List.set_cons_zero, List.set_cons_succ]
              refine wpAnyH_take (i := 2) (oi := { dst := some 74, op := Op.fieldAddr 34 (Operand.tmp 6) 2, type := 0, pos := "law.go:237", after := #[], guard := none }) (v := ?_) rfl (by kernel_rfl) (by kernel_rfl) (by kernel_rfl) (fun _ _ _ h => h) (Or.inl ⟨by rfl, ?hy3⟩) hS0 ?_
              case hy3 => (intro V hSw; (try dsimp only at hSw); clear hSw; go_simp; try with_reducible rfl)
              try simp only [Act.put, List.setIfInBounds_toArray, List.set_cons_zero, List.set_cons_succ]
              refine wpAnyH_take (i := 3) (oi := { dst := some 75, op := Op.load 32 (Operand.tmp 74), type := 32, pos := "law.go:237", after := #[{ on := 2, ground := Ground.data }], guard := none }) (v := ?_) rfl (by kernel_rfl) (by kernel_rfl) (by kernel_rfl) (fun _ _ _ h => h) (Or.inl ⟨by rfl, ?hy4⟩) hS0 ?_
              case hy4 => (intro V hSw; (try dsimp only at hSw); have q0 := grow_cell hSw.out (block_lt_of_cell g0) g0; have q1 := grow_cell hSw.out (block_lt_of_cell g2) g2; have q2 := grow_cell hSw.out (block_lt_of_cell hu13) hu13; clear hSw; go_simp; try with_reducible rfl)
              try simp only [Act.put, List.setIfInBounds_toArray, List.set_cons_zero, List.set_cons_succ]
              refine wpAnyH_take (i := 4) (oi := { dst := some 76, op := Op.indexAddr 32 (Operand.tmp 75) (Operand.const (Value.int IntKind.i64 0)), type := 0, pos := "law.go:237", after := #[{ on := 3, ground := Ground.data }], guard := none }) (v := ?_) rfl (by kernel_rfl) (by kernel_rfl) (by kernel_rfl) (fun _ _ _ h => h) (Or.inl ⟨by rfl, ?hy5⟩) hS0 ?_
              case hy5 => (intro V hSw; (try dsimp only at hSw); clear hSw; go_simp; try with_reducible rfl)
              try simp only [Act.put, List.setIfInBounds_toArray, List.set_cons_zero, List.set_cons_succ]
              refine wpAnyH_take (i := 5) (oi := { dst := some 77, op := Op.load 3 (Operand.tmp 76), type := 3, pos := "law.go:237", after := #[{ on := 4, ground := Ground.data }], guard := none }) (v := ?_) rfl (by kernel_rfl) (by kernel_rfl) (by kernel_rfl) (fun _ _ _ h => h) (Or.inl ⟨by rfl, ?hy6⟩) hS0 ?_
              case hy6 => (intro V hSw; (try dsimp only at hSw); have q0 := grow_cell hSw.out (block_lt_of_cell g0) g0; have q1 := grow_cell hSw.out (block_lt_of_cell g2) g2; have q2 := grow_cell hSw.out (block_lt_of_cell hu13) hu13; clear hSw; go_simp; try with_reducible rfl)
              try simp only [Act.put, List.setIfInBounds_toArray, List.set_cons_zero, List.set_cons_succ]
              refine wpAnyH_take (i := 6) (oi := { dst := some 78, op := Op.binOp BinOp.eql 3 (Operand.tmp 73) (Operand.tmp 77) 3, type := 4, pos := "law.go:237", after := #[{ on := 1, ground := Ground.data }, { on := 5, ground := Ground.data }], guard := none }) (v := ?_) rfl (by kernel_rfl) (by kernel_rfl) (by kernel_rfl) (fun _ _ _ h => h) (Or.inl ⟨by rfl, ?hy7⟩) hS0 ?_
              case hy7 => (intro V hSw; (try dsimp only at hSw); clear hSw; go_simp; try with_reducible rfl)
              try simp only [Act.put, List.setIfInBounds_toArray, List.set_cons_zero, List.set_cons_succ]
              refine wpAnyH_done (by kernel_rfl) ?_ _
              generalize W13.drew = Wd at *
              clear g0 g2 hu13 hS0
              have m0 := (cell_of_blk HS.out 0).trans (show _ = some (.int .i64 rz) from rfl)
              have m1 := (cell_of_blk HS.out 1).trans (show _ = some (.int .i64 rn) from rfl)
              have m2 := (cell_of_blk HS.out 2).trans (show _ = some (.string rka.u) from rfl)
              have m3 := (cell_of_blk HS.out 3).trans (show _ = some (.int .i64 rka.s) from rfl)
              have m4 := (cell_of_blk HS.out 4).trans (show _ = some (.int .i64 rka.k) from rfl)
              have m5 := (cell_of_blk HS.out 5).trans (show _ = some (.string rkb.u) from rfl)
              have m6 := (cell_of_blk HS.out 6).trans (show _ = some (.int .i64 rkb.s) from rfl)
              have m7 := (cell_of_blk HS.out 7).trans (show _ = some (.int .i64 rkb.k) from rfl)
              have m8 := (cell_of_blk HS.out 8).trans (show _ = some (.slice mra rrn mrc) from rfl)
              have hpc := fun j => cell_of_blk HMb2.out j
              have hpz := fun j => frozen_of_blk HMb2.out j
              have HF := Lib.hid (set9g (V := Wd) rfl HMb2.out (.int .i64 rz) (.int .i64 rn) (.string rka.u) (.int .i64 rka.s) (.int .i64 rka.k) (.string rkb.u) (.int .i64 rkb.s) (.int .i64 rkb.k) (.slice mra rrn mrc))
              have HB9 := Lib.hid (below9 (B := mb) HbS.out (Nat.le_refl _) (.int .i64 rz) (.int .i64 rn) (.string rka.u) (.int .i64 rka.s) (.int .i64 rka.k) (.string rkb.u) (.int .i64 rkb.s) (.int .i64 rkb.k) (.slice mra rrn mrc))
              go_wp2_with fail
              go_roundw
              case rel => exact ⟨j + 1, by omega, by go_num, _, _, _, _, _, HF.out, .inr ⟨rfl, rfl, rfl, rfl, rfl⟩, HB9.out, blk_lt HF.out⟩
              case measure => simp [intOf]; omega
            · have Hor2 : Hid ((∀ i : Nat, i < j + 1 → (V.l n)[i]? ≠ some (⟨qz, qn, qa, qb, qrefs⟩, .slice qra qrn qrc)) ∨ (mz = qz ∧ mn = qn ∧ ma = qa ∧ mk = qb ∧ mv = .slice qra qrn qrc)) := Lib.hid (by
                rcases Hor.out with q | q
                · refine .inl (fun i hi => ?_)
                  by_cases e : i = j
                  · subst e
                    intro e2
                    rw [Hr.out] at e2
                    injection e2 with e2
                    injection e2 with e2 _
                    injection e2 with e2
                    exact hz e2
                  · exact q i (by omega)
                · exact .inr q)
              refine wp_region_held_drew (S := fun V' => Hid (Below W13.heap.size W13 V')) (by kernel_rfl) (Lib.hid ((Below.refl _ _).drew)) (fun hS0 => ?_)
              refine wpAnyH_take (i := 0) (oi := { dst := some 72, op := Op.fieldAddr 49 (Operand.tmp 13) 0, type := 0, pos := "law.go:237", after := #[], guard := none }) (v := ?_) rfl (by kernel_rfl) (by kernel_rfl) (by kernel_rfl) (fun _ _ _ h => h) (Or.inl ⟨by rfl, ?hy8⟩) hS0 ?_
              case hy8 => (intro V hSw; (try dsimp only at hSw); clear hSw; go_simp; try with_reducible rfl)
              try simp only [Act.put, List.setIfInBounds_toArray, List.set_cons_zero, List.set_cons_succ]
              refine wpAnyH_take (i := 1) (oi := { dst := some 73, op := Op.load 3 (Operand.tmp 72), type := 3, pos := "law.go:237", after := #[{ on := 0, ground := Ground.data }], guard := none }) (v := ?_) rfl (by kernel_rfl) (by kernel_rfl) (by kernel_rfl) (fun _ _ _ h => h) (Or.inl ⟨by rfl, ?hy9⟩) hS0 ?_
              case hy9 => (intro V hSw; (try dsimp only at hSw); have q0 := grow_cell hSw.out (block_lt_of_cell g0) g0; have q1 := grow_cell hSw.out (block_lt_of_cell g2) g2; have q2 := grow_cell hSw.out (block_lt_of_cell hu13) hu13; clear hSw; go_simp; try with_reducible rfl)
              try simp only [Act.put, List.setIfInBounds_toArray, List.set_cons_zero, List.set_cons_succ]
              refine wpAnyH_take (i := 2) (oi := { dst := some 74, op := Op.fieldAddr 34 (Operand.tmp 6) 2, type := 0, pos := "law.go:237", after := #[], guard := none }) (v := ?_) rfl (by kernel_rfl) (by kernel_rfl) (by kernel_rfl) (fun _ _ _ h => h) (Or.inl ⟨by rfl, ?hy10⟩) hS0 ?_
              case hy10 => (intro V hSw; (try dsimp only at hSw); clear hSw; go_simp; try with_reducible rfl)
              try simp only [Act.put, List.setIfInBounds_toArray, List.set_cons_zero, List.set_cons_succ]
              refine wpAnyH_take (i := 3) (oi := { dst := some 75, op := Op.load 32 (Operand.tmp 74), type := 32, pos := "law.go:237", after := #[{ on := 2, ground := Ground.data }], guard := none }) (v := ?_) rfl (by kernel_rfl) (by kernel_rfl) (by kernel_rfl) (fun _ _ _ h => h) (Or.inl ⟨by rfl, ?hy11⟩) hS0 ?_
              case hy11 => (intro V hSw; (try dsimp only at hSw); have q0 := grow_cell hSw.out (block_lt_of_cell g0) g0; have q1 := grow_cell hSw.out (block_lt_of_cell g2) g2; have q2 := grow_cell hSw.out (block_lt_of_cell hu13) hu13; clear hSw; go_simp; try with_reducible rfl)
              try simp only [Act.put, List.setIfInBounds_toArray, List.set_cons_zero, List.set_cons_succ]
              refine wpAnyH_take (i := 4) (oi := { dst := some 76, op := Op.indexAddr 32 (Operand.tmp 75) (Operand.const (Value.int IntKind.i64 0)), type := 0, pos := "law.go:237", after := #[{ on := 3, ground := Ground.data }], guard := none }) (v := ?_) rfl (by kernel_rfl) (by kernel_rfl) (by kernel_rfl) (fun _ _ _ h => h) (Or.inl ⟨by rfl, ?hy12⟩) hS0 ?_
              case hy12 => (intro V hSw; (try dsimp only at hSw); clear hSw; go_simp; try with_reducible rfl)
              try simp only [Act.put, List.setIfInBounds_toArray, List.set_cons_zero, List.set_cons_succ]
              refine wpAnyH_take (i := 5) (oi := { dst := some 77, op := Op.load 3 (Operand.tmp 76), type := 3, pos := "law.go:237", after := #[{ on := 4, ground := Ground.data }], guard := none }) (v := ?_) rfl (by kernel_rfl) (by kernel_rfl) (by kernel_rfl) (fun _ _ _ h => h) (Or.inl ⟨by rfl, ?hy13⟩) hS0 ?_
              case hy13 => (intro V hSw; (try dsimp only at hSw); have q0 := grow_cell hSw.out (block_lt_of_cell g0) g0; have q1 := grow_cell hSw.out (block_lt_of_cell g2) g2; have q2 := grow_cell hSw.out (block_lt_of_cell hu13) hu13; clear hSw; go_simp; try with_reducible rfl)
              try simp only [Act.put, List.setIfInBounds_toArray, List.set_cons_zero, List.set_cons_succ]
              refine wpAnyH_take (i := 6) (oi := { dst := some 78, op := Op.binOp BinOp.eql 3 (Operand.tmp 73) (Operand.tmp 77) 3, type := 4, pos := "law.go:237", after := #[{ on := 1, ground := Ground.data }, { on := 5, ground := Ground.data }], guard := none }) (v := ?_) rfl (by kernel_rfl) (by kernel_rfl) (by kernel_rfl) (fun _ _ _ h => h) (Or.inl ⟨by rfl, ?hy14⟩) hS0 ?_
              case hy14 => (intro V hSw; (try dsimp only at hSw); clear hSw; go_simp; try with_reducible rfl)
              try simp only [Act.put, List.setIfInBounds_toArray, List.set_cons_zero, List.set_cons_succ]
              refine wpAnyH_done (by kernel_rfl) ?_ _
              generalize W13.drew = Wd at *
              clear g0 g2 hu13 hS0
              go_wp2_with fail
              go_roundw
              case rel => exact ⟨j + 1, by omega, by go_num, _, _, _, _, _, HMb2.out, Hor2.out, HbS.out, Hmlt2.out⟩
              case measure => simp [intOf]; omega
          · obtain rfl : j = K := by omega
            have HM12 : Hid (wq.heap[mb]? = some (.cells #[.int .i64 qz, .int .i64 qn, .string qa.u, .int .i64 qa.s, .int .i64 qa.k, .string qb.u, .int .i64 qb.s, .int .i64 qb.k, .slice qra qrn qrc] 49 (0, 0))) := Lib.hid (by
              rcases Hor.out with q | ⟨rfl, rfl, rfl, rfl, rfl⟩
              · exfalso
                obtain ⟨i, hi, e⟩ := List.mem_iff_getElem.1 HqM.out
                exact q i (by rw [HK.out]; exact hi) (by rw [List.getElem?_eq_getElem hi, e])
              · exact HMb.out)
            clear Hor HMb hbq
            have HT12 := Lib.hid ((Hbq.out.block _ htbW).trans HT11.out)
            have HV12 := Lib.hid (blk_bels HbO.out HV.out)
            have Huo12 := Lib.hid (own_low Huo11.out Hbq.out (fun g e => by cases e; exact hubm))
            have t1 := (cell_of_blk HT12.out 1).trans (show _ = some (.int .i64 ((n : Int) + 1)) from rfl)
            have c0 := (cell_of_blk HV12.out 0).trans (show _ = some (.slice xa0 xn0 xc0) from rfl)
            have c1 := (cell_of_blk HV12.out 1).trans (show _ = some (.slice xa1 xn1 xc1) from rfl)
            have c2 := (cell_of_blk HV12.out 2).trans (show _ = some (.slice xa2 xn2 xc2) from rfl)
            have c3 := (cell_of_blk HV12.out 3).trans (show _ = some (.slice xa3 xn3 xc3) from rfl)
            have m2 := (cell_of_blk HM12.out 2).trans (show _ = some (.string qa.u) from rfl)
            have m5 := (cell_of_blk HM12.out 5).trans (show _ = some (.string qb.u) from rfl)
            clear Hthe HMx HMr hKm hKm2 hKl HK
            go_wp2_with fail
            refine (HOv.out _ _ _ _ HbO.out).mono ?_
            rintro e wb ⟨x2, rws, rfl, hown, hrw, hbb⟩
            obtain ⟨q1, hq1⟩ : ∃ q : Mt, q = ⟨qz, qn, qa, qb, qrefs⟩ := ⟨_, rfl⟩
            obtain ⟨R, hR⟩ : ∃ R, R = dnR (lvOf V.l) n q1 := ⟨_, rfl⟩
            have hq1m : q1 ∈ lvOf V.l n := by rw [hq1]; exact List.mem_map.2 ⟨_, HqM.out, rfl⟩
            have HRl : Hid (∀ g : ByteArray, ∀ s : ByteArray, ((tabs V.l 4).filter (overB ((n : Int) + 1) s g)).map (·.2.1) = (lvOf V.l (n + 1)).filter (covM s g)) := Lib.hid (fun g s => by
              have h := over_lv V.l (show n + 1 < 4 by omega) s g
              rwa [show ((n + 1 : Nat) : Int) = (n : Int) + 1 by omega] at h)
            have hrwR : rws.map (·.1) = R := by rw [hrw, HRl.out, hR, hq1]
            have hmlen : rws.length = R.length := by rw [← hrwR, List.length_map]
            have hm5 : R.length ≤ 100000 := by
              rw [← hmlen]
              have h1 := congrArg List.length hrw
              rw [List.length_map, List.length_map] at h1
              rw [h1]
              exact Nat.le_trans (List.length_filter_le _ _) Hl.out.1
            obtain ⟨ya, yc, rfl⟩ := own_slice hown.1
            obtain ⟨-, hyc, hym, hyx⟩ := hown.isMr.1.at
            have hyb : ∀ bb off, ya = some ⟨bb, off, none⟩ → bb ≠ mb := fun bb off e => by have := (hown.1.lt bb (by rw [e]; rfl)).1; omega
            have Hyb := Lib.hid hyb
            have Hyx := Lib.hid hyx
            have Hrr := Lib.hid hown.isMr.2
            have HrwR := Lib.hid hrwR
            obtain ⟨m, hm⟩ : ∃ m, m = R.length := ⟨_, rfl⟩
            rw [hmlen, ← hm] at hyc Hyx ⊢
            rw [← hm] at hm5 hmlen
            have Hm := Lib.hid hm
            have Hml := Lib.hid hmlen
            have HBb := Lib.hid (Hbq.out.trans (hbb.mono (Nat.le_of_lt hmlt)))
            have HBo := Lib.hid (HbO.out.trans (hbb.mono HbO.out.size))
            have HMB := Lib.hid (blk_bels hbb HM12.out)
            have Huob := Lib.hid (own_below Huo12.out hbb)
            have hwb := hbb.size
            have Hq1 := Lib.hid hq1
            have Hq1m := Lib.hid hq1m
            have HR := Lib.hid hR
            have HqR := HqM
            clear hown hrw hbb hyx hm hyb hrwR hmlen hq1m hq1 hR t1 m2 m5 c0 c1 c2 c3 HM12 HT12 HV12 Huo12 HbO Hbq HqM Huo11 Hu11
            go_wp2_with fail
            go_loopw [92] (fun iv wr => ∃ i : Nat, i ≤ m ∧ iv = .int .i64 i ∧ wr.heap[mb]? = some (.cells #[.int .i64 qz, .int .i64 qn, .string (dnM q1 R i).a.u, .int .i64 (dnM q1 R i).a.s, .int .i64 (dnM q1 R i).a.k, .string (dnM q1 R i).b.u, .int .i64 (dnM q1 R i).b.s, .int .i64 (dnM q1 R i).b.k, .slice qra qrn qrc] 49 (0, 0)) ∧ KeptBut mb wb wr ∧ Below mb W11 wr) (fun iv _ => m - (intOf iv).toNat)
            case atStart => exact ⟨0, Nat.zero_le _, rfl, by have := HMB.out; rw [Hq1.out]; exact this, KeptBut.refl _ _, HBb.out⟩
            case round =>
              obtain ⟨wq4, rfl⟩ : ∃ wq4 : World, wq4 = wr := ⟨_, rfl⟩
              obtain ⟨i, hi, rfl, hM4, hk4b, hb4⟩ := hrel
              have Hk4 := Lib.hid hk4b
              have Hb4 := Lib.hid hb4
              by_cases him : i < m
              · obtain ⟨bb, off, hya, hcell⟩ := Hyx.out (by omega)
                have hbbm := Hyb.out bb off hya
                subst hya
                obtain ⟨r, hr⟩ : ∃ r, rws[i]? = some r := ⟨_, List.getElem?_eq_getElem (by rw [Hml.out]; exact him)⟩
                obtain ⟨d0, d1, d2, d3, d4, d5, d6, d7, d8⟩ := IsMr.row (w := wq4) (fun i x hi j y hj => cell_keptB hk4b hbbm (hcell i x hi j y hj)) hr
                obtain ⟨tra, trc, hrv, -, -, -⟩ := Hrr.out r (List.mem_of_getElem? hr)
                have hRi : R.getD i Mt.nil = r.1 := by
                  rw [← HrwR.out, List.getD_eq_getElem?_getD, List.getElem?_map, hr]; rfl
                have hst : (dnM q1 R (i + 1)).a = (if cmpK r.1.a (dnM q1 R i).a < 0 then r.1.a else (dnM q1 R i).a) ∧ (dnM q1 R (i + 1)).b = (if 0 < cmpK r.1.b (dnM q1 R i).b then r.1.b else (dnM q1 R i).b) := by
                  rw [← hRi]; exact ⟨rfl, rfl⟩
                obtain ⟨⟨tz, tn, ta, tk, refs⟩, vr⟩ := r
                dsimp only at d0 d1 d2 d3 d4 d5 d6 d7 d8 hrv hst
                have Hst := Lib.hid hst
                have HM4 := Lib.hid hM4
                generalize (dnM q1 R i).a = ma at *
                generalize (dnM q1 R i).b = mk at *
                generalize refs.length = trn at *
                subst hrv
                have hmlt4 : mb < wq4.heap.size := blk_lt hM4
                have HC1 := Lib.hid (fun W => kcmp_any ta ma W)
                have HC2 := Lib.hid (fun W => kcmp_any tk mk W)
                have hAl : Below wq4.heap.size wq4 (wq4.alloc (.cells #[.int .i64 tz, .int .i64 tn, .string ta.u, .int .i64 ta.s, .int .i64 ta.k, .string tk.u, .int .i64 tk.s, .int .i64 tk.k, .slice tra trn trc] 49)) := (Below.refl _ _).alloc (Nat.le_refl _) _
                have Hb15 := Lib.hid (hb4.trans (hAl.mono (Nat.le_of_lt hmlt4)))
                have Hk15 := Lib.hid (hk4b.trans (KeptBut.of_below hAl))
                have HM15 := Lib.hid (blk_bels hAl hM4)
                have HS15 := Lib.hid (blk_of_alloc wq4 (.cells #[.int .i64 tz, .int .i64 tn, .string ta.u, .int .i64 ta.s, .int .i64 ta.k, .string tk.u, .int .i64 tk.s, .int .i64 tk.k, .slice tra trn trc] 49))
                obtain ⟨sb, hsb⟩ : ∃ o, o = wq4.heap.size := ⟨_, rfl⟩
                have Hsb := Lib.hid hsb
                rw [← hsb] at HS15 hmlt4
                clear hr hcell hk4b hb4 hM4 hst hsb hAl hRi HM4 Hk4 Hb4
                go_upto_region 26 with fail
                rw [← Hsb.out]
                generalize wq4.alloc (.cells #[.int .i64 tz, .int .i64 tn, .string ta.u, .int .i64 ta.s, .int .i64 ta.k, .string tk.u, .int .i64 tk.s, .int .i64 tk.k, .slice tra trn trc] 49) = W15 at *
                clear Hsb d0 d1 d2 d3 d4 d5 d6 d7 d8
                generalize (Value.agg #[.int .i64 tz, .int .i64 tn, .string ta.u, .int .i64 ta.s, .int .i64 ta.k, .string tk.u, .int .i64 tk.s, .int .i64 tk.k, .slice tra trn trc]) = dead7
                have g0 := (cell_of_blk HS15.out 0).trans (show _ = some (.int .i64 tz) from rfl)
                have g1 := (cell_of_blk HS15.out 1).trans (show _ = some (.int .i64 tn) from rfl)
                have g2 := (cell_of_blk HS15.out 2).trans (show _ = some (.string ta.u) from rfl)
                have g3 := (cell_of_blk HS15.out 3).trans (show _ = some (.int .i64 ta.s) from rfl)
                have g4 := (cell_of_blk HS15.out 4).trans (show _ = some (.int .i64 ta.k) from rfl)
                have g5 := (cell_of_blk HS15.out 5).trans (show _ = some (.string tk.u) from rfl)
                have g6 := (cell_of_blk HS15.out 6).trans (show _ = some (.int .i64 tk.s) from rfl)
                have g7 := (cell_of_blk HS15.out 7).trans (show _ = some (.int .i64 tk.k) from rfl)
                have g8 := (cell_of_blk HS15.out 8).trans (show _ = some (.slice tra trn trc) from rfl)
                have n0 := (cell_of_blk HM15.out 0).trans (show _ = some (.int .i64 qz) from rfl)
                have n1 := (cell_of_blk HM15.out 1).trans (show _ = some (.int .i64 qn) from rfl)
                have n2 := (cell_of_blk HM15.out 2).trans (show _ = some (.string ma.u) from rfl)
                have n3 := (cell_of_blk HM15.out 3).trans (show _ = some (.int .i64 ma.s) from rfl)
                have n4 := (cell_of_blk HM15.out 4).trans (show _ = some (.int .i64 ma.k) from rfl)
                have n5 := (cell_of_blk HM15.out 5).trans (show _ = some (.string mk.u) from rfl)
                have n6 := (cell_of_blk HM15.out 6).trans (show _ = some (.int .i64 mk.s) from rfl)
                have n7 := (cell_of_blk HM15.out 7).trans (show _ = some (.int .i64 mk.k) from rfl)
                have n8 := (cell_of_blk HM15.out 8).trans (show _ = some (.slice qra qrn qrc) from rfl)
                generalize hD1 : cmpK ta ma = D1 at *
                clear hD1
                by_cases h1 : D1 < 0
                · have e1 : decide (D1 < 0) = true := decide_eq_true h1
                  go_wp2_with fail
                  refine (HC1.out _).mono ?_
                  rintro e wc ⟨rfl, hbc⟩
                  have HMc0 := Lib.hid (blk_bels hbc HM15.out)
                  have HSc := Lib.hid (blk_bels hbc HS15.out)
                  have HKc0 := Lib.hid (Hk15.out.trans (KeptBut.of_below hbc))
                  have HBc0 := Lib.hid (Hb15.out.trans (hbc.mono (Nat.le_of_lt (blk_lt HM15.out))))
                  clear hbc g0 g1 g2 g3 g4 g5 g6 g7 g8 n0 n1 n2 n3 n4 n5 n6 n7 n8
                  have g0 := (cell_of_blk HSc.out 0).trans (show _ = some (.int .i64 tz) from rfl)
                  have g1 := (cell_of_blk HSc.out 1).trans (show _ = some (.int .i64 tn) from rfl)
                  have g2 := (cell_of_blk HSc.out 2).trans (show _ = some (.string ta.u) from rfl)
                  have g3 := (cell_of_blk HSc.out 3).trans (show _ = some (.int .i64 ta.s) from rfl)
                  have g4 := (cell_of_blk HSc.out 4).trans (show _ = some (.int .i64 ta.k) from rfl)
                  have g5 := (cell_of_blk HSc.out 5).trans (show _ = some (.string tk.u) from rfl)
                  have g6 := (cell_of_blk HSc.out 6).trans (show _ = some (.int .i64 tk.s) from rfl)
                  have g7 := (cell_of_blk HSc.out 7).trans (show _ = some (.int .i64 tk.k) from rfl)
                  have g8 := (cell_of_blk HSc.out 8).trans (show _ = some (.slice tra trn trc) from rfl)
                  have hpc := fun j => cell_of_blk HMc0.out j
                  have hpz := fun j => frozen_of_blk HMc0.out j
                  have HMc2 : Hid ((((wc.setCell ⟨mb, 2, none⟩ (.string ta.u)).setCell ⟨mb, 3, none⟩ (.int .i64 ta.s)).setCell ⟨mb, 4, none⟩ (.int .i64 ta.k)).heap[mb]? = some (.cells #[.int .i64 qz, .int .i64 qn, .string ta.u, .int .i64 ta.s, .int .i64 ta.k, .string mk.u, .int .i64 mk.s, .int .i64 mk.k, .slice qra qrn qrc] 49 (0, 0))) := Lib.hid ((blk_set (blk_set (blk_set HMc0.out))).trans rfl)
                  have HSc2 : Hid ((((wc.setCell ⟨mb, 2, none⟩ (.string ta.u)).setCell ⟨mb, 3, none⟩ (.int .i64 ta.s)).setCell ⟨mb, 4, none⟩ (.int .i64 ta.k)).heap[sb]? = some (.cells #[.int .i64 tz, .int .i64 tn, .string ta.u, .int .i64 ta.s, .int .i64 ta.k, .string tk.u, .int .i64 tk.s, .int .i64 tk.k, .slice tra trn trc] 49 (0, 0))) := Lib.hid (blk_set_far (blk_set_far (blk_set_far HSc.out (Nat.ne_of_gt hmlt4)) (Nat.ne_of_gt hmlt4)) (Nat.ne_of_gt hmlt4))
                  have HKc2 := Lib.hid (((HKc0.out.trans (keptBut_set (i := 2) (v := .string ta.u))).trans (keptBut_set (i := 3) (v := .int .i64 ta.s))).trans (keptBut_set (i := 4) (v := .int .i64 ta.k)))
                  have HBc2 := Lib.hid (((HBc0.out.setCell (p := ⟨mb, 2, none⟩) (Nat.le_refl _) (.string ta.u)).setCell (p := ⟨mb, 3, none⟩) (Nat.le_refl _) (.int .i64 ta.s)).setCell (p := ⟨mb, 4, none⟩) (Nat.le_refl _) (.int .i64 ta.k))
                  go_upto_region 28 with fail
                  clear hpc hpz HMc0 HSc HKc0 HBc0 g0 g1 g2 g3 g4 g5 g6 g7 g8
                  generalize ((wc.setCell ⟨mb, 2, none⟩ (.string ta.u)).setCell ⟨mb, 3, none⟩ (.int .i64 ta.s)).setCell ⟨mb, 4, none⟩ (.int .i64 ta.k) = Wc at *
                  have HMc := HMc2
                  have HSc := HSc2
                  have HKc := HKc2
                  have HBc := HBc2
                  clear HMc2 HSc2 HKc2 HBc2
                  generalize hD2 : cmpK tk mk = D2 at *
                  clear hD2
                  have g0 := (cell_of_blk HSc.out 0).trans (show _ = some (.int .i64 tz) from rfl)
                  have g1 := (cell_of_blk HSc.out 1).trans (show _ = some (.int .i64 tn) from rfl)
                  have g2 := (cell_of_blk HSc.out 2).trans (show _ = some (.string ta.u) from rfl)
                  have g3 := (cell_of_blk HSc.out 3).trans (show _ = some (.int .i64 ta.s) from rfl)
                  have g4 := (cell_of_blk HSc.out 4).trans (show _ = some (.int .i64 ta.k) from rfl)
                  have g5 := (cell_of_blk HSc.out 5).trans (show _ = some (.string tk.u) from rfl)
                  have g6 := (cell_of_blk HSc.out 6).trans (show _ = some (.int .i64 tk.s) from rfl)
                  have g7 := (cell_of_blk HSc.out 7).trans (show _ = some (.int .i64 tk.k) from rfl)
                  have g8 := (cell_of_blk HSc.out 8).trans (show _ = some (.slice tra trn trc) from rfl)
                  have n0 := (cell_of_blk HMc.out 0).trans (show _ = some (.int .i64 qz) from rfl)
                  have n1 := (cell_of_blk HMc.out 1).trans (show _ = some (.int .i64 qn) from rfl)
                  have n2 := (cell_of_blk HMc.out 2).trans (show _ = some (.string ta.u) from rfl)
                  have n3 := (cell_of_blk HMc.out 3).trans (show _ = some (.int .i64 ta.s) from rfl)
                  have n4 := (cell_of_blk HMc.out 4).trans (show _ = some (.int .i64 ta.k) from rfl)
                  have n5 := (cell_of_blk HMc.out 5).trans (show _ = some (.string mk.u) from rfl)
                  have n6 := (cell_of_blk HMc.out 6).trans (show _ = some (.int .i64 mk.s) from rfl)
                  have n7 := (cell_of_blk HMc.out 7).trans (show _ = some (.int .i64 mk.k) from rfl)
                  have n8 := (cell_of_blk HMc.out 8).trans (show _ = some (.slice qra qrn qrc) from rfl)
                  by_cases h2 : 0 < D2
                  · have e2a : decide (D2 > 0) = true := decide_eq_true h2
                    have e2b : decide (0 < D2) = true := decide_eq_true h2
                    go_wp2_with fail
                    refine (HC2.out _).mono ?_
                    rintro e wd ⟨rfl, hbd⟩
                    have HMd0 := Lib.hid (blk_bels hbd HMc.out)
                    have HSd0 := Lib.hid (blk_bels hbd HSc.out)
                    have HKd0 := Lib.hid (HKc.out.trans (KeptBut.of_below hbd))
                    have HBd0 := Lib.hid (HBc.out.trans (hbd.mono (Nat.le_of_lt (blk_lt HMc.out))))
                    clear hbd HSc g0 g1 g2 g3 g4 g5 g6 g7 g8 n0 n1 n2 n3 n4 n5 n6 n7 n8
                    have HSc := HSd0
                    have g0 := (cell_of_blk HSd0.out 0).trans (show _ = some (.int .i64 tz) from rfl)
                    have g1 := (cell_of_blk HSd0.out 1).trans (show _ = some (.int .i64 tn) from rfl)
                    have g2 := (cell_of_blk HSd0.out 2).trans (show _ = some (.string ta.u) from rfl)
                    have g3 := (cell_of_blk HSd0.out 3).trans (show _ = some (.int .i64 ta.s) from rfl)
                    have g4 := (cell_of_blk HSd0.out 4).trans (show _ = some (.int .i64 ta.k) from rfl)
                    have g5 := (cell_of_blk HSd0.out 5).trans (show _ = some (.string tk.u) from rfl)
                    have g6 := (cell_of_blk HSd0.out 6).trans (show _ = some (.int .i64 tk.s) from rfl)
                    have g7 := (cell_of_blk HSd0.out 7).trans (show _ = some (.int .i64 tk.k) from rfl)
                    have g8 := (cell_of_blk HSd0.out 8).trans (show _ = some (.slice tra trn trc) from rfl)
                    have hpc := fun j => cell_of_blk HMd0.out j
                    have hpz := fun j => frozen_of_blk HMd0.out j
                    have HMe : Hid ((((wd.setCell ⟨mb, 5, none⟩ (.string tk.u)).setCell ⟨mb, 6, none⟩ (.int .i64 tk.s)).setCell ⟨mb, 7, none⟩ (.int .i64 tk.k)).heap[mb]? = some (.cells #[.int .i64 qz, .int .i64 qn, .string ta.u, .int .i64 ta.s, .int .i64 ta.k, .string tk.u, .int .i64 tk.s, .int .i64 tk.k, .slice qra qrn qrc] 49 (0, 0))) := Lib.hid ((blk_set (blk_set (blk_set HMd0.out))).trans rfl)
                    have HSe : Hid ((((wd.setCell ⟨mb, 5, none⟩ (.string tk.u)).setCell ⟨mb, 6, none⟩ (.int .i64 tk.s)).setCell ⟨mb, 7, none⟩ (.int .i64 tk.k)).heap[sb]? = some (.cells #[.int .i64 tz, .int .i64 tn, .string ta.u, .int .i64 ta.s, .int .i64 ta.k, .string tk.u, .int .i64 tk.s, .int .i64 tk.k, .slice tra trn trc] 49 (0, 0))) := Lib.hid (blk_set_far (blk_set_far (blk_set_far HSc.out (Nat.ne_of_gt hmlt4)) (Nat.ne_of_gt hmlt4)) (Nat.ne_of_gt hmlt4))
                    have HKe := Lib.hid (((HKd0.out.trans (keptBut_set (i := 5) (v := .string tk.u))).trans (keptBut_set (i := 6) (v := .int .i64 tk.s))).trans (keptBut_set (i := 7) (v := .int .i64 tk.k)))
                    have HBe := Lib.hid (((HBd0.out.setCell (p := ⟨mb, 5, none⟩) (Nat.le_refl _) (.string tk.u)).setCell (p := ⟨mb, 6, none⟩) (Nat.le_refl _) (.int .i64 tk.s)).setCell (p := ⟨mb, 7, none⟩) (Nat.le_refl _) (.int .i64 tk.k))
                    go_wp2_with fail
                    go_roundw
                    case rel => exact ⟨i + 1, by omega, by go_num, by rw [Hst.out.1, Hst.out.2, if_pos h2, if_pos h1]; exact HMe.out, HKe.out, HBe.out⟩
                    case measure => simp [intOf]; omega
                  · have e2a : decide (D2 > 0) = false := decide_eq_false h2
                    have e2b : decide (0 < D2) = false := decide_eq_false h2
                    go_wp2_with fail
                    refine (HC2.out _).mono ?_
                    rintro e wd ⟨rfl, hbd⟩
                    have HMd0 := Lib.hid (blk_bels hbd HMc.out)
                    have HKd0 := Lib.hid (HKc.out.trans (KeptBut.of_below hbd))
                    have HBd0 := Lib.hid (HBc.out.trans (hbd.mono (Nat.le_of_lt (blk_lt HMc.out))))
                    clear hbd HSc g0 g1 g2 g3 g4 g5 g6 g7 g8 n0 n1 n2 n3 n4 n5 n6 n7 n8
                    go_wp2_with fail
                    go_roundw
                    case rel => exact ⟨i + 1, by omega, by go_num, by rw [Hst.out.1, Hst.out.2, if_neg (show ¬ 0 < D2 by omega), if_pos h1]; exact HMd0.out, HKd0.out, HBd0.out⟩
                    case measure => simp [intOf]; omega
                · have e1 : decide (D1 < 0) = false := decide_eq_false h1
                  go_wp2_with fail
                  refine (HC1.out _).mono ?_
                  rintro e wc ⟨rfl, hbc⟩
                  have HMc0 := Lib.hid (blk_bels hbc HM15.out)
                  have HSc := Lib.hid (blk_bels hbc HS15.out)
                  have HKc0 := Lib.hid (Hk15.out.trans (KeptBut.of_below hbc))
                  have HBc0 := Lib.hid (Hb15.out.trans (hbc.mono (Nat.le_of_lt (blk_lt HM15.out))))
                  clear hbc g0 g1 g2 g3 g4 g5 g6 g7 g8 n0 n1 n2 n3 n4 n5 n6 n7 n8
                  go_upto_region 28 with fail
                  have HMc := HMc0
                  have HKc := HKc0
                  have HBc := HBc0
                  clear HMc0 HKc0 HBc0
                  generalize hD2 : cmpK tk mk = D2 at *
                  clear hD2
                  have g0 := (cell_of_blk HSc.out 0).trans (show _ = some (.int .i64 tz) from rfl)
                  have g1 := (cell_of_blk HSc.out 1).trans (show _ = some (.int .i64 tn) from rfl)
                  have g2 := (cell_of_blk HSc.out 2).trans (show _ = some (.string ta.u) from rfl)
                  have g3 := (cell_of_blk HSc.out 3).trans (show _ = some (.int .i64 ta.s) from rfl)
                  have g4 := (cell_of_blk HSc.out 4).trans (show _ = some (.int .i64 ta.k) from rfl)
                  have g5 := (cell_of_blk HSc.out 5).trans (show _ = some (.string tk.u) from rfl)
                  have g6 := (cell_of_blk HSc.out 6).trans (show _ = some (.int .i64 tk.s) from rfl)
                  have g7 := (cell_of_blk HSc.out 7).trans (show _ = some (.int .i64 tk.k) from rfl)
                  have g8 := (cell_of_blk HSc.out 8).trans (show _ = some (.slice tra trn trc) from rfl)
                  have n0 := (cell_of_blk HMc.out 0).trans (show _ = some (.int .i64 qz) from rfl)
                  have n1 := (cell_of_blk HMc.out 1).trans (show _ = some (.int .i64 qn) from rfl)
                  have n2 := (cell_of_blk HMc.out 2).trans (show _ = some (.string ma.u) from rfl)
                  have n3 := (cell_of_blk HMc.out 3).trans (show _ = some (.int .i64 ma.s) from rfl)
                  have n4 := (cell_of_blk HMc.out 4).trans (show _ = some (.int .i64 ma.k) from rfl)
                  have n5 := (cell_of_blk HMc.out 5).trans (show _ = some (.string mk.u) from rfl)
                  have n6 := (cell_of_blk HMc.out 6).trans (show _ = some (.int .i64 mk.s) from rfl)
                  have n7 := (cell_of_blk HMc.out 7).trans (show _ = some (.int .i64 mk.k) from rfl)
                  have n8 := (cell_of_blk HMc.out 8).trans (show _ = some (.slice qra qrn qrc) from rfl)
                  by_cases h2 : 0 < D2
                  · have e2a : decide (D2 > 0) = true := decide_eq_true h2
                    have e2b : decide (0 < D2) = true := decide_eq_true h2
                    go_wp2_with fail
                    refine (HC2.out _).mono ?_
                    rintro e wd ⟨rfl, hbd⟩
                    have HMd0 := Lib.hid (blk_bels hbd HMc.out)
                    have HSd0 := Lib.hid (blk_bels hbd HSc.out)
                    have HKd0 := Lib.hid (HKc.out.trans (KeptBut.of_below hbd))
                    have HBd0 := Lib.hid (HBc.out.trans (hbd.mono (Nat.le_of_lt (blk_lt HMc.out))))
                    clear hbd HSc g0 g1 g2 g3 g4 g5 g6 g7 g8 n0 n1 n2 n3 n4 n5 n6 n7 n8
                    have HSc := HSd0
                    have g0 := (cell_of_blk HSd0.out 0).trans (show _ = some (.int .i64 tz) from rfl)
                    have g1 := (cell_of_blk HSd0.out 1).trans (show _ = some (.int .i64 tn) from rfl)
                    have g2 := (cell_of_blk HSd0.out 2).trans (show _ = some (.string ta.u) from rfl)
                    have g3 := (cell_of_blk HSd0.out 3).trans (show _ = some (.int .i64 ta.s) from rfl)
                    have g4 := (cell_of_blk HSd0.out 4).trans (show _ = some (.int .i64 ta.k) from rfl)
                    have g5 := (cell_of_blk HSd0.out 5).trans (show _ = some (.string tk.u) from rfl)
                    have g6 := (cell_of_blk HSd0.out 6).trans (show _ = some (.int .i64 tk.s) from rfl)
                    have g7 := (cell_of_blk HSd0.out 7).trans (show _ = some (.int .i64 tk.k) from rfl)
                    have g8 := (cell_of_blk HSd0.out 8).trans (show _ = some (.slice tra trn trc) from rfl)
                    have hpc := fun j => cell_of_blk HMd0.out j
                    have hpz := fun j => frozen_of_blk HMd0.out j
                    have HMe : Hid ((((wd.setCell ⟨mb, 5, none⟩ (.string tk.u)).setCell ⟨mb, 6, none⟩ (.int .i64 tk.s)).setCell ⟨mb, 7, none⟩ (.int .i64 tk.k)).heap[mb]? = some (.cells #[.int .i64 qz, .int .i64 qn, .string ma.u, .int .i64 ma.s, .int .i64 ma.k, .string tk.u, .int .i64 tk.s, .int .i64 tk.k, .slice qra qrn qrc] 49 (0, 0))) := Lib.hid ((blk_set (blk_set (blk_set HMd0.out))).trans rfl)
                    have HSe : Hid ((((wd.setCell ⟨mb, 5, none⟩ (.string tk.u)).setCell ⟨mb, 6, none⟩ (.int .i64 tk.s)).setCell ⟨mb, 7, none⟩ (.int .i64 tk.k)).heap[sb]? = some (.cells #[.int .i64 tz, .int .i64 tn, .string ta.u, .int .i64 ta.s, .int .i64 ta.k, .string tk.u, .int .i64 tk.s, .int .i64 tk.k, .slice tra trn trc] 49 (0, 0))) := Lib.hid (blk_set_far (blk_set_far (blk_set_far HSc.out (Nat.ne_of_gt hmlt4)) (Nat.ne_of_gt hmlt4)) (Nat.ne_of_gt hmlt4))
                    have HKe := Lib.hid (((HKd0.out.trans (keptBut_set (i := 5) (v := .string tk.u))).trans (keptBut_set (i := 6) (v := .int .i64 tk.s))).trans (keptBut_set (i := 7) (v := .int .i64 tk.k)))
                    have HBe := Lib.hid (((HBd0.out.setCell (p := ⟨mb, 5, none⟩) (Nat.le_refl _) (.string tk.u)).setCell (p := ⟨mb, 6, none⟩) (Nat.le_refl _) (.int .i64 tk.s)).setCell (p := ⟨mb, 7, none⟩) (Nat.le_refl _) (.int .i64 tk.k))
                    go_wp2_with fail
                    go_roundw
                    case rel => exact ⟨i + 1, by omega, by go_num, by rw [Hst.out.1, Hst.out.2, if_pos h2, if_neg (show ¬ D1 < 0 by omega)]; exact HMe.out, HKe.out, HBe.out⟩
                    case measure => simp [intOf]; omega
                  · have e2a : decide (D2 > 0) = false := decide_eq_false h2
                    have e2b : decide (0 < D2) = false := decide_eq_false h2
                    go_wp2_with fail
                    refine (HC2.out _).mono ?_
                    rintro e wd ⟨rfl, hbd⟩
                    have HMd0 := Lib.hid (blk_bels hbd HMc.out)
                    have HKd0 := Lib.hid (HKc.out.trans (KeptBut.of_below hbd))
                    have HBd0 := Lib.hid (HBc.out.trans (hbd.mono (Nat.le_of_lt (blk_lt HMc.out))))
                    clear hbd HSc g0 g1 g2 g3 g4 g5 g6 g7 g8 n0 n1 n2 n3 n4 n5 n6 n7 n8
                    go_wp2_with fail
                    go_roundw
                    case rel => exact ⟨i + 1, by omega, by go_num, by rw [Hst.out.1, Hst.out.2, if_neg (show ¬ 0 < D2 by omega), if_neg (show ¬ D1 < 0 by omega)]; exact HMd0.out, HKd0.out, HBd0.out⟩
                    case measure => simp [intOf]; omega
              · have him2 : m = i := by omega
                subst him2
                have hdn : DnI q1 R m (dnM q1 R m) := by rw [Hm.out]; exact dn_all q1 R R.length (Nat.le_refl _)
                obtain ⟨mf, hmf⟩ : ∃ x, x = dnM q1 R m := ⟨_, rfl⟩
                rw [← hmf] at hdn hM4
                obtain ⟨L1, hap, hv1, hr1, hmu⟩ := dn_apply HD.out.ver HD.out.rb hn3 Hq1m.out (m := mf) (by rw [← HR.out, ← Hm.out]; exact hdn)
                have hsame := dn_same HD.out.ver hn3 (HD.out.ver.ok n (by omega) _ Hq1m.out) (m := mf) (by rw [← HR.out, ← Hm.out]; exact hdn)
                rw [← HR.out] at hap hsame
                obtain ⟨fz, fn, fa, fb, frefs⟩ := mf
                obtain rfl : qz = fz := by have := hdn.z; rw [Hq1.out] at this; exact this.symm
                obtain rfl : qn = fn := by have := hdn.n; rw [Hq1.out] at this; exact this.symm
                obtain rfl : qrefs = frefs := by have := hdn.refs; rw [Hq1.out] at this; exact this.symm
                rw [show q1.z = qz by rw [Hq1.out]] at hap
                dsimp only at hM4 hsame
                have Hap := Lib.hid hap
                have Hend := Lib.hid (And.intro hv1 (And.intro hr1 hmu))
                have Hsame := Lib.hid hsame
                have HMf := Lib.hid hM4
                have hmlt4 : mb < wq4.heap.size := blk_lt hM4
                have hb4o := Hb11.out.trans (hb4.mono hwoW)
                have HT31 := Lib.hid ((hb4.block _ htbW).trans HT11.out)
                have HV31 := Lib.hid (blk_bels hb4o HV.out)
                have Huo31 := Lib.hid (own_keptB Huob.out hk4b (fun g e => by cases e; exact Nat.ne_of_lt hubm))
                have HIr : Hid (IsRr wq4 (.slice qra qrn qrc) qrefs) := Lib.hid (((HD.out.vn n (by omega)).2 _ HqR.out).below hb4o)
                have t1 := (cell_of_blk HT31.out 1).trans (show _ = some (.int .i64 ((n : Int) + 1)) from rfl)
                have t2 := (cell_of_blk HT31.out 2).trans (show _ = some (.slice (some ⟨ub, uoff, none⟩) 1 uc) from rfl)
                have f0 := (cell_of_blk HMf.out 0).trans (show _ = some (.int .i64 qz) from rfl)
                have f1 := (cell_of_blk HMf.out 1).trans (show _ = some (.int .i64 qn) from rfl)
                have f2 := (cell_of_blk HMf.out 2).trans (show _ = some (.string fa.u) from rfl)
                have f3 := (cell_of_blk HMf.out 3).trans (show _ = some (.int .i64 fa.s) from rfl)
                have f4 := (cell_of_blk HMf.out 4).trans (show _ = some (.int .i64 fa.k) from rfl)
                have f5 := (cell_of_blk HMf.out 5).trans (show _ = some (.string fb.u) from rfl)
                have f6 := (cell_of_blk HMf.out 6).trans (show _ = some (.int .i64 fb.s) from rfl)
                have f7 := (cell_of_blk HMf.out 7).trans (show _ = some (.int .i64 fb.k) from rfl)
                have f8 := (cell_of_blk HMf.out 8).trans (show _ = some (.slice qra qrn qrc) from rfl)
                obtain ⟨pb, hpb⟩ : ∃ o, o = wq4.heap.size := ⟨_, rfl⟩
                have Hpb := Lib.hid hpb
                have HA31 := Lib.hid (((Below.refl wq4.heap.size wq4).alloc (Nat.le_refl _) (.cells #[.int .i64 ((n : Int) + 1), .int .i64 qz, .int .i64 qn, .string fa.u, .int .i64 fa.s, .int .i64 fa.k, .string fb.u, .int .i64 fb.s, .int .i64 fb.k, .slice qra qrn qrc] 53)).alloc (by simp) (.cells #[.slice (some ⟨pb, 0, none⟩) 1 1, .slice (some ⟨ub, uoff, none⟩) 1 uc] 56))
                have HPb : Hid (((wq4.alloc (.cells #[.int .i64 ((n : Int) + 1), .int .i64 qz, .int .i64 qn, .string fa.u, .int .i64 fa.s, .int .i64 fa.k, .string fb.u, .int .i64 fb.s, .int .i64 fb.k, .slice qra qrn qrc] 53)).alloc (.cells #[.slice (some ⟨pb, 0, none⟩) 1 1, .slice (some ⟨ub, uoff, none⟩) 1 uc] 56)).heap[pb]? = some (.cells #[.int .i64 ((n : Int) + 1), .int .i64 qz, .int .i64 qn, .string fa.u, .int .i64 fa.s, .int .i64 fa.k, .string fb.u, .int .i64 fb.s, .int .i64 fb.k, .slice qra qrn qrc] 53 (0, 0))) := Lib.hid (by rw [hpb]; exact blk_old (blk_of_alloc wq4 _) _)
                have HEb : Hid (((wq4.alloc (.cells #[.int .i64 ((n : Int) + 1), .int .i64 qz, .int .i64 qn, .string fa.u, .int .i64 fa.s, .int .i64 fa.k, .string fb.u, .int .i64 fb.s, .int .i64 fb.k, .slice qra qrn qrc] 53)).alloc (.cells #[.slice (some ⟨pb, 0, none⟩) 1 1, .slice (some ⟨ub, uoff, none⟩) 1 uc] 56)).heap[pb + 1]? = some (.cells #[.slice (some ⟨pb, 0, none⟩) 1 1, .slice (some ⟨ub, uoff, none⟩) 1 uc] 56 (0, 0))) := Lib.hid (by rw [hpb]; exact blk_new (by simp only [World.size_alloc]) _)
                have HbO := Lib.hid (hb4o.trans (HA31.out.mono hb4o.size))
                have Huo32 := Lib.hid (own_below Huo31.out HA31.out)
                have HV32 := Lib.hid (blk_bels HA31.out HV31.out)
                have HT32 := Lib.hid (blk_bels HA31.out HT31.out)
                have HM32 := Lib.hid (blk_bels HA31.out HMf.out)
                have hpbo : wo.heap.size ≤ pb := by rw [hpb]; exact hb4o.size
                clear hap hv1 hr1 hmu hmf hdn hM4 hb4 hk4b hb4o hsame hpb HV31 HT31 Huo31 HIr HMf
                go_upto_region 32 with fail
                rw [← Hpb.out]
                generalize (wq4.alloc (.cells #[.int .i64 ((n : Int) + 1), .int .i64 qz, .int .i64 qn, .string fa.u, .int .i64 fa.s, .int .i64 fa.k, .string fb.u, .int .i64 fb.s, .int .i64 fb.k, .slice qra qrn qrc] 53)).alloc (.cells #[.slice (some ⟨pb, 0, none⟩) 1 1, .slice (some ⟨ub, uoff, none⟩) 1 uc] 56) = W31 at *
                clear Hpb HA31 f0 f1 f2 f3 f4 f5 f6 f7 f8 t1 t2
                generalize (Value.agg #[.int .i64 ((n : Int) + 1), .int .i64 qz, .int .i64 qn, .string fa.u, .int .i64 fa.s, .int .i64 fa.k, .string fb.u, .int .i64 fb.s, .int .i64 fb.k, .slice qra qrn qrc]) = dead8
                generalize (Value.agg #[.slice (some ⟨pb, 0, none⟩) 1 1, .slice (some ⟨ub, uoff, none⟩) 1 uc]) = dead9
                generalize (Value.agg #[.int .i64 qz, .int .i64 qn, .string fa.u, .int .i64 fa.s, .int .i64 fa.k, .string fb.u, .int .i64 fb.s, .int .i64 fb.k, .slice qra qrn qrc]) = dead10
                have c0 := (cell_of_blk HV32.out 0).trans (show _ = some (.slice xa0 xn0 xc0) from rfl)
                have c1 := (cell_of_blk HV32.out 1).trans (show _ = some (.slice xa1 xn1 xc1) from rfl)
                have c2 := (cell_of_blk HV32.out 2).trans (show _ = some (.slice xa2 xn2 xc2) from rfl)
                have c3 := (cell_of_blk HV32.out 3).trans (show _ = some (.slice xa3 xn3 xc3) from rfl)
                have t1 := (cell_of_blk HT32.out 1).trans (show _ = some (.int .i64 ((n : Int) + 1)) from rfl)
                have m2 := (cell_of_blk HM32.out 2).trans (show _ = some (.string fa.u) from rfl)
                have m5 := (cell_of_blk HM32.out 5).trans (show _ = some (.string fb.u) from rfl)
                go_wp2_with fail
                refine (HOv.out _ _ _ _ HbO.out).mono ?_
                rintro e wb5 ⟨x3, rws5, rfl, hown5, hrw5, hb5⟩
                have hrw5R : rws5.map (·.1) = R := by rw [hrw5, HRl.out, Hsame.out]
                have hml5 : rws5.length = m := by rw [Hm.out, ← hrw5R, List.length_map]
                obtain ⟨za, zc, rfl⟩ := own_slice hown5.1
                obtain ⟨-, hzc, hzm, -⟩ := hown5.isMr.1.at
                rw [hml5] at hzc hown5 ⊢
                have Hown5 := Lib.hid hown5.1
                have Hrr5 := Lib.hid hown5.isMr.2
                have Hrw5 := Lib.hid hrw5R
                have Hml5 := Lib.hid hml5
                have HE5 := Lib.hid (blk_bels hb5 HEb.out)
                have HP5 := Lib.hid (blk_bels hb5 HPb.out)
                have Huo5 := Lib.hid (own_below Huo32.out hb5)
                have HbO5 := Lib.hid (HbO.out.trans (hb5.mono HbO.out.size))
                clear hown5 hrw5 hb5 hrw5R hml5 c0 c1 c2 c3 t1 m2 m5 HEb HPb Huo32 HV32 HT32 HM32 HbO
                go_wp2_with fail
                go_loopw [134] (fun iv wr => ∃ i : Nat, i ≤ m ∧ iv = .int .i64 i ∧ ∃ da dc, wr.heap[pb + 1]? = some (.cells #[.slice (some ⟨pb, 0, none⟩) 1 1, .slice da (i + 1) dc] 56 (0, 0)) ∧ OwnZ wr wo.heap.size (.slice da (i + 1) dc) (qz :: (R.take i).map (·.z)) ∧ KeptQ wb5 wr ∧ Below wo.heap.size wo wr) (fun iv _ => m - (intOf iv).toNat)
                case atStart => exact ⟨0, Nat.zero_le _, rfl, some ⟨ub, uoff, none⟩, uc, HE5.out, Huo5.out, KeptQ.refl _, HbO5.out⟩
                case round =>
                  clear HE5 Huo5 HbO5
                  obtain ⟨wq5, rfl⟩ : ∃ wq5 : World, wq5 = wr := ⟨_, rfl⟩
                  obtain ⟨i, hi, rfl, da, dc, hE, hoz, hkq, hbo⟩ := hrel
                  have HE := Lib.hid hE
                  have Hoz := Lib.hid hoz
                  have Hkq := Lib.hid hkq
                  have Hbo := Lib.hid hbo
                  by_cases him : i < m
                  · obtain ⟨-, -, -, hx5⟩ := (isSl_own mrC_len (own_keptQ Hown5.out hkq)).at
                    obtain ⟨bb, off, hza, hcell⟩ := hx5 (by first | omega | (rw [Hml5.out]; omega))
                    subst hza
                    obtain ⟨r, hr⟩ : ∃ r, rws5[i]? = some r := ⟨_, List.getElem?_eq_getElem (by rw [Hml5.out]; exact him)⟩
                    obtain ⟨d0, d1, d2, d3, d4, d5, d6, d7, d8⟩ := IsMr.row (w := wq5) hcell hr
                    obtain ⟨tra, trc, hrv, -, -, -⟩ := Hrr5.out r (List.mem_of_getElem? hr)
                    have hRi : (R.take (i + 1)).map (·.z) = (R.take i).map (·.z) ++ [r.1.z] := by
                      have : R[i]? = some r.1 := by rw [← Hrw5.out, List.getElem?_map, hr]; rfl
                      rw [List.take_add_one, this, List.map_append]; rfl
                    obtain ⟨⟨tz, tn, ta, tk, refs⟩, vr⟩ := r
                    dsimp only at d0 d1 d2 d3 d4 d5 d6 d7 d8 hrv hRi
                    have HRi := Lib.hid hRi
                    generalize refs.length = trn at *
                    subst hrv
                    have hAl : Below wq5.heap.size wq5 (wq5.alloc (.cells #[.int .i64 tz, .int .i64 tn, .string ta.u, .int .i64 ta.s, .int .i64 ta.k, .string tk.u, .int .i64 tk.s, .int .i64 tk.k, .slice tra trn trc] 49)) := (Below.refl _ _).alloc (Nat.le_refl _) _
                    have HS5 := Lib.hid (blk_of_alloc wq5 (.cells #[.int .i64 tz, .int .i64 tn, .string ta.u, .int .i64 ta.s, .int .i64 ta.k, .string tk.u, .int .i64 tk.s, .int .i64 tk.k, .slice tra trn trc] 49))
                    have HEo := Lib.hid (blk_bels hAl hE)
                    have Hozo := Lib.hid (own_below hoz hAl)
                    have Hkqo := Lib.hid (hkq.trans (KeptQ.below hAl))
                    have Hboo := Lib.hid (hbo.trans (hAl.mono hbo.size))
                    obtain ⟨sb, hsb⟩ : ∃ o, o = wq5.heap.size := ⟨_, rfl⟩
                    have Hsb := Lib.hid hsb
                    rw [← hsb] at HS5
                    clear hr hcell hx5 hRi hAl hsb hE hoz hkq hbo HE Hoz Hkq Hbo
                    go_upto_region 35 with fail
                    rw [← Hsb.out]
                    generalize wq5.alloc (.cells #[.int .i64 tz, .int .i64 tn, .string ta.u, .int .i64 ta.s, .int .i64 ta.k, .string tk.u, .int .i64 tk.s, .int .i64 tk.k, .slice tra trn trc] 49) = wo5 at *
                    clear Hsb d0 d1 d2 d3 d4 d5 d6 d7 d8
                    generalize (Value.agg #[.int .i64 tz, .int .i64 tn, .string ta.u, .int .i64 ta.s, .int .i64 ta.k, .string tk.u, .int .i64 tk.s, .int .i64 tk.k, .slice tra trn trc]) = dead11
                    obtain ⟨da2, dc2, w2, hrun, hown2, hg2⟩ := push_z wo5 wo.heap.size da (i + 1) dc _ tz Hozo.out (by omega) Hboo.out.size
                    have hE2 := push_other Hozo.out hg2 HEo.out (by decide)
                    have hAz : Below wo5.heap.size wo5 (wo5.alloc (.cells #[.int .i64 tz] 3)) := (Below.refl _ _).alloc (Nat.le_refl _) _
                    have hkq2 : KeptQ wb5 w2 := (Hkqo.out.trans (KeptQ.below hAz)).trans (KeptQ.grown (own_below Hozo.out hAz) hg2)
                    have hbo2 : Below wo.heap.size wo w2 := push_bel Hboo.out Hozo.out hg2 (Nat.le_refl _) Hboo.out.size
                    have HF : Hid ((w2.setCell ⟨pb + 1, 1, none⟩ (.slice da2 (i + 1 + 1) dc2)).heap[pb + 1]? = some (.cells #[.slice (some ⟨pb, 0, none⟩) 1 1, .slice da2 (i + 1 + 1) dc2] 56 (0, 0)) ∧ OwnZ (w2.setCell ⟨pb + 1, 1, none⟩ (.slice da2 (i + 1 + 1) dc2)) wo.heap.size (.slice da2 (i + 1 + 1) dc2) (qz :: (R.take (i + 1)).map (·.z)) ∧ KeptQ wb5 (w2.setCell ⟨pb + 1, 1, none⟩ (.slice da2 (i + 1 + 1) dc2)) ∧ Below wo.heap.size wo (w2.setCell ⟨pb + 1, 1, none⟩ (.slice da2 (i + 1 + 1) dc2))) := by
                      refine Lib.hid ⟨(blk_set hE2).trans rfl, ?_, hkq2.trans (KeptQ.set hE2 _), hbo2.setCell (p := ⟨pb + 1, 1, none⟩) (Nat.le_trans hpbo (Nat.le_succ _)) _⟩
                      rw [HRi.out, show qz :: ((R.take i).map (·.z) ++ [tz]) = (qz :: (R.take i).map (·.z)) ++ [tz] from rfl]
                      exact own_setT hown2 hE2
                    have q3 := (cell_of_blk HEo.out 1).trans (show _ = some (.slice da (i + 1) dc) from rfl)
                    have o0 := (cell_of_blk HS5.out 0).trans (show _ = some (.int .i64 tz) from rfl)
                    have q4 := (cell_of_blk hE2 1).trans (show _ = some (.slice da (i + 1) dc) from rfl)
                    have q5 := frozen_of_blk hE2 1
                    clear hown2 hg2 hAz hE2 hkq2 hbo2
                    go_wp2_with (at_builtin; first | (refine wpList_val rfl _ _ (run_append_op (.tmp 139) (.tmp 142) 32 32 rfl rfl rfl hrun) ?_) | (refine wpList_val rfl _ _ (run_append_op (.tmp 139) (.tmp 142) 32 32 rfl (by simp) (by simp) hrun) ?_))
                    go_roundw
                    case rel => exact ⟨i + 1, by omega, by go_num, da2, dc2, HF.out⟩
                    case measure => simp [intOf]; omega
                  · have him2 : m = i := by omega
                    subst him2
                    have hzs : (R.take m).map (·.z) = R.map (·.z) := by rw [Hm.out, List.take_length]
                    rw [hzs] at hoz
                    have HV37 := Lib.hid (blk_bels hbo HV.out)
                    have HIr := Lib.hid (((HD.out.vn n (by omega)).2 _ HqR.out).below hbo)
                    have hpl : IsPl wq5 (.slice (some ⟨pb, 0, none⟩) 1 1) [((n : Int) + 1, ((⟨qz, qn, fa, fb, qrefs⟩ : Mt), .slice qra qrn qrc))] := isPl_blk (hkq.same _ _ _ _ (by decide) (by decide) HP5.out) HIr.out
                    have hrf : qrefs.length ≤ 1000000 := by have := HD.out.rb n (by omega) q1 Hq1m.out; rw [Hq1.out] at this; exact this
                    have hap := vapply_any V _ _ _ _ wq5 (HD.out.vn.below hbo) (by rw [verOk_lv]; exact ver_to HD.out.ver) Hl.out.1 Hl.out.2 hpl (isSl_own dzC_len hoz) (by simp) (fun p hp => by rw [List.mem_singleton.1 hp]; exact hrf)
                    rw [Hc.out] at hap
                    have HAp := Lib.hid hap
                    have hap' : applyP (lvOf V.l) (qz :: R.map (·.z)) (psM [((n : Int) + 1, ((⟨qz, qn, fa, fb, qrefs⟩ : Mt), (.slice qra qrn qrc : Value)))]) = some L1 := Hap.out
                    have Hap' := Lib.hid hap'
                    have e0 := (cell_of_blk HE.out 0).trans (show _ = some (.slice (some ⟨pb, 0, none⟩) 1 1) from rfl)
                    have e1 := (cell_of_blk HE.out 1).trans (show _ = some (.slice da (m + 1) dc) from rfl)
                    have c0 := (cell_of_blk HV37.out 0).trans (show _ = some (.slice xa0 xn0 xc0) from rfl)
                    have c1 := (cell_of_blk HV37.out 1).trans (show _ = some (.slice xa1 xn1 xc1) from rfl)
                    have c2 := (cell_of_blk HV37.out 2).trans (show _ = some (.slice xa2 xn2 xc2) from rfl)
                    have c3 := (cell_of_blk HV37.out 3).trans (show _ = some (.slice xa3 xn3 xc3) from rfl)
                    clear hE hoz hkq hzs hpl hap hap' hrf HIr
                    go_wp2_with fail
                    refine HAp.out.mono ?_
                    rintro e w6 q6
                    have q6 := q6.out
                    unfold ApOut at q6
                    rw [Hap'.out] at q6
                    obtain ⟨U1, rfl, hU1, hu1, hb6⟩ := q6
                    obtain ⟨ya0, yn0, yc0, ya1, yn1, yc1, ya2, yn2, yc2, ya3, yn3, yc3, hcy⟩ := isVn_agg' hU1.isVn
                    rw [hcy]
                    have hA19 : Below w6.heap.size w6 (w6.alloc (.cells #[.slice ya0 yn0 yc0, .slice ya1 yn1 yc1, .slice ya2 yn2 yc2, .slice ya3 yn3 yc3] 26)) := (Below.refl _ _).alloc (Nat.le_refl _) _
                    have HY := Lib.hid (blk_of_alloc w6 (.cells #[.slice ya0 yn0 yc0, .slice ya1 yn1 yc1, .slice ya2 yn2 yc2, .slice ya3 yn3 yc3] 26))
                    have hbw := HbW6 HD.out.bel (Hbo.out.trans ((hb6.trans (hA19.mono hb6.size)).mono Hbo.out.size))
                    have HVY := Lib.hid (blk_bels (hb6.trans (hA19.mono hb6.size)) HV37.out)
                    have hmu2 : mu L1 + (k + 1) ≤ 192 := by have h1 := Hend.out.2.2; have h2 := HD.out.mu; omega
                    have HDW := Lib.hid (dnW_put (w := w) (W := w6.alloc (.cells #[.slice ya0 yn0 yc0, .slice ya1 yn1 yc1, .slice ya2 yn2 yc2, .slice ya3 yn3 yc3] 26)) (vb := vb) (k := k) (V := V) (U := U1) (L1 := L1) (by rw [Hc.out]; exact HVY.out) (isVn_slv HD.out.vn) (hU1.isVn.below hA19) hcy hu1 Hend.out.1 Hend.out.2.1 hmu2 HD.out.lt hbw)
                    have hk2 : k + 1 ≤ 192 := by omega
                    have hvlt : vb < w6.heap.size := blk_lt (blk_bels hb6 HV37.out)
                    have Hvlt := Lib.hid hvlt
                    clear hU1 hu1 hb6 hA19 hbw hcy hmu2 c0 c1 c2 c3 e0 e1 hbo
                    go_upto_region 40 with fail
                    generalize w6.alloc (.cells #[.slice ya0 yn0 yc0, .slice ya1 yn1 yc1, .slice ya2 yn2 yc2, .slice ya3 yn3 yc3] 26) = W19 at *
                    have y0 := (cell_of_blk HY.out 0).trans (show _ = some (.slice ya0 yn0 yc0) from rfl)
                    have y1 := (cell_of_blk HY.out 1).trans (show _ = some (.slice ya1 yn1 yc1) from rfl)
                    have y2 := (cell_of_blk HY.out 2).trans (show _ = some (.slice ya2 yn2 yc2) from rfl)
                    have y3 := (cell_of_blk HY.out 3).trans (show _ = some (.slice ya3 yn3 yc3) from rfl)
                    have z0 := (cell_of_blk HVY.out 0).trans (show _ = some (.slice xa0 xn0 xc0) from rfl)
                    have z1 := (cell_of_blk HVY.out 1).trans (show _ = some (.slice xa1 xn1 xc1) from rfl)
                    have z2 := (cell_of_blk HVY.out 2).trans (show _ = some (.slice xa2 xn2 xc2) from rfl)
                    have z3 := (cell_of_blk HVY.out 3).trans (show _ = some (.slice xa3 xn3 xc3) from rfl)
                    have zz := fun j => frozen_of_blk HVY.out j
                    go_wp2_with fail
                    go_roundw
                    case rel => exact ⟨k + 1, hk2, by go_num, U1, HDW.out⟩
                    case measure => simp [intOf]; omega
end Go.Proofs.YtcmndnglmpkpdaaDoor.Tithe
