/- The law CompactMetas, walked. -/
import Derived.Test.YtkjfjcigmmooiaaMetasPlain
import Derived.Test.YtkjfjcigmmooiaaOwnMore
namespace Go.Proofs.Ytkjfjcigmmooiaa.Tithe
open Go.RowKit Go.Sort Go.Shelf
set_option linter.unusedVariables false
set_option maxRecDepth 100000
set_option maxHeartbeats 1600000 in
theorem metas_no (v v2 : Value) (l : List En) (ps : List Pt) (z : Int) (w : World) (h : IsEs w v l) (h2 : IsPt w v2 ps) (hr : rightE l 60 = false ∨ ps.length < l.length) :
    Calls Try.prog 4 #[v, v2, .int .i64 z] w fun e w' => e = .returned (.bool true) ∧ Below w.heap.size w w' := by
  have h1 := right_any v l 60 w h
  have H1 := Lib.hid h1
  clear h1
  obtain ⟨a, c, rfl, -, -, -⟩ := id h
  obtain ⟨a2, c2, rfl, -, -, -⟩ := id h2
  clear h h2
  generalize l.length = n at *
  generalize ps.length = m at *
  cases hq : rightE l 60 with
  | false =>
    rw [hq] at H1
    clear hq hr
    go_enter Try.func4, Try.ntmps4
    go_wp2_with fail
    refine H1.out.mono ?_
    rintro e w1 ⟨rfl, hb1⟩
    go_wp2_with fail
    refine (awake_any _).mono ?_
    rintro e w2 ⟨rfl, hb2⟩
    go_wp2
    go_ret
    exact ⟨rfl, hb1.trans (hb2.mono hb1.size)⟩
  | true =>
    rw [hq] at H1
    have hlt : m < n := by
      rcases hr with hr | hr
      · rw [hq] at hr; cases hr
      · exact hr
    clear hq hr
    go_enter Try.func4, Try.ntmps4
    go_wp2_with fail
    refine H1.out.mono ?_
    rintro e w1 ⟨rfl, hb1⟩
    go_wp2_with fail
    refine (awake_any _).mono ?_
    rintro e w2 ⟨rfl, hb2⟩
    go_wp2
    go_ret
    exact ⟨rfl, hb1.trans (hb2.mono hb1.size)⟩
theorem IsPt.row {w : World} {b off : Nat} {l : List Pt} (h : ∀ i x, l[i]? = some x → ∀ j y, (ptC x)[j]? = some y → w.cell? ⟨b, off + i * 3 + j, none⟩ = some y) {i : Nat} {x : Pt} (hx : l[i]? = some x) :
    w.cell? ⟨b, off + i * 3, none⟩ = some (.int .i64 x.1) ∧ w.cell? ⟨b, off + i * 3 + 1, none⟩ = some (.int .i64 x.2.1) ∧ w.cell? ⟨b, off + i * 3 + 2, none⟩ = some (.int .i64 x.2.2) :=
  ⟨h i x hx 0 _ rfl, h i x hx 1 _ rfl, h i x hx 2 _ rfl⟩
theorem text_any (p : Pt) (w : World) : Calls Try.prog 13 #[.agg #[.int .i64 p.1, .int .i64 p.2.1, .int .i64 p.2.2]] w fun e w' =>
    e = .returned (.tuple #[.string (if okT p then ptText p else ⟨#[]⟩), .int .i64 (if okT p then 0 else 140)]) ∧ Below w.heap.size w w' := by
  by_cases h : okT p = true
  · obtain ⟨h1, e1, e2, e3, -⟩ := okT_nat h
    have := text_ok _ _ _ w h1
    rw [e1, e2, e3] at this
    rw [if_pos h, if_pos h]
    exact this
  · rw [if_neg h, if_neg h]
    exact text_bad _ _ _ w (by simpa [okT] using h)
set_option maxHeartbeats 6400000 in
theorem metas_yes (v v2 : Value) (l : List En) (ps : List Pt) (z : Int) (w : World) (h : IsEs w v l) (h2 : IsPt w v2 ps) (hr : rightE l 60 = true) (hm : l.length ≤ ps.length) :
    Calls Try.prog 4 #[v, v2, .int .i64 z] w fun e w' => e = .returned (.bool true) ∧ Below w.heap.size w w' := by
  obtain ⟨i0, hi0, hz0, hz1, hz2⟩ := info_parts' enInfo
  have h1 := right_any v l 60 w h
  rw [hr] at h1
  have H1 := Lib.hid h1
  have H := Lib.hid h
  have H2 := Lib.hid h2
  have Hr := Lib.hid hr
  have hl60 := right_len hr
  obtain ⟨a, c, rfl, -, -, -⟩ := id h
  obtain ⟨a2, c2, rfl, -, -, -⟩ := id h2
  obtain ⟨-, hc1, hm1, hx1⟩ := h.at
  obtain ⟨-, hc2, hm2, hx2⟩ := h2.at
  have Hi0 := Lib.hid hi0
  have Hz0 := Lib.hid hz0
  have Hz1 := Lib.hid hz1
  have Hz2 := Lib.hid hz2
  clear h1 hr h h2 hi0 hz0 hz1 hz2
  obtain ⟨n, hn⟩ : ∃ n, n = l.length := ⟨_, rfl⟩
  obtain ⟨m, hn2⟩ : ∃ m, m = ps.length := ⟨_, rfl⟩
  rw [← hn] at hm hl60 hc1 hx1 H H1 ⊢
  rw [← hn2] at hm hc2 hx2 H2 ⊢
  have Hn := Lib.hid hn
  have Hn2 := Lib.hid hn2
  have Hx1 := Lib.hid hx1
  have Hx2 := Lib.hid hx2
  clear hn hn2 hx1 hx2
  go_enter Try.func4, Try.ntmps4
  go_wp2_with fail
  refine H1.out.mono ?_
  rintro e w1 ⟨rfl, hb1⟩
  have Hb1 := Lib.hid hb1
  have Hsl := Lib.hid ((H.out.below hb1).below ((Below.refl _ w1).alloc (Nat.le_refl _) (.cells #[] 30)))
  have hbs := hb1.size
  clear hb1 H1
  go_wp2_with (first | (at_builtin; refine wpList_append_sl rfl (.tmp 28) (.tmp 29) 22 rfl w1.heap.size 30 i0 (.agg #[.string ⟨#[]⟩, .int .i64 0, .int .i64 0, .string ⟨#[]⟩]) 4 48 Try.underlying22 Hi0.out Hz0.out Hz1.out Hz2.out rfl (by decide) (.slice (some ⟨w1.heap.size, 0, none⟩) 0 0) 0 [] rfl (ownsRow_empty w1 _ _) en_len l n Hn.out (.slice a n c) rfl Hsl.out (ens_one _) ?p1 ?p2 ?p3 ?_))
  case p1 => unfold maxLen; omega
  case p2 => omega
  case p3 => simp
  intro v3 w3 hown hgrow
  obtain ⟨a3, c3, rfl⟩ := own_slice hown
  have hal : Below w1.heap.size w1 (w1.alloc (.cells #[] 30)) := (Below.refl _ _).alloc (Nat.le_refl _) _
  have hg3 : Below w1.heap.size w1 w3 := grow_own hal (ownsRow_empty w1 30 4) hgrow (Nat.le_refl _) (by simp)
  have Hb3 := Lib.hid (Hb1.out.trans (hg3.mono hbs))
  have Hown := Lib.hid hown
  have hws : w.heap.size ≤ w3.heap.size := Nat.le_trans hbs hg3.size
  have Hlt3 := Lib.hid (fun g (e : a3 = some ⟨g, 0, none⟩) => hown.lt g (by rw [e]; rfl))
  clear hown hgrow hal hg3 Hsl Hi0 Hz0 Hz1 Hz2
  go_wp2_with fail
  go_loopw [33] (fun i wr => ∃ k : Nat, k ≤ n ∧ i = .int .i64 k ∧ wr.ownsRow w1.heap.size 30 4 (.slice a3 n c3) n (flat En.cells (modTo l ps k)) ∧ wr.heap[w3.heap.size]? = some (.cells (zArr (sumTo l ps k)) 35 (0, 0)) ∧ Below w.heap.size w wr) (fun i _ => n - (intOf i).toNat)
  case atStart => exact ⟨0, Nat.zero_le _, rfl, by rw [modTo_zero]; exact Hown.out.alloc _, by show (w3.heap.push _)[w3.heap.size]? = _; rw [Array.getElem?_push_size]; rfl, Hb3.out.alloc hws _⟩
  case round =>
    obtain ⟨wo, rfl⟩ : ∃ wo : World, wo = wr := ⟨_, rfl⟩
    obtain ⟨k, hk, rfl, hown, hsum, hb⟩ := hrel
    have Hsum := Lib.hid hsum
    have Hb := Lib.hid hb
    clear hsum hb Hown
    by_cases hkn : k < n
    ·
      --@[
      obtain ⟨g, cc, hgv, hwg, hglt⟩ := hown.form (by omega)
      injection hgv with hgv _ hcv
      subst hgv hcv
      have hg3 := (Hlt3.out g rfl).2
      have hne : w3.heap.size ≠ g := fun e => by omega
      have hne2 : g ≠ w3.heap.size := fun e => hne e.symm
      obtain ⟨x, hxk⟩ : ∃ x, l[k]? = some x := ⟨_, List.getElem?_eq_getElem (by rw [← Hn.out]; exact hkn)⟩
      obtain ⟨p, hpk⟩ : ∃ p, ps[k]? = some p := ⟨_, List.getElem?_eq_getElem (by rw [← Hn2.out]; omega)⟩
      have hgx : l.getD k En.nil = x := by rw [List.getD_eq_getElem?_getD, hxk]; rfl
      have hgp : ps.getD k Pt.nil = p := by rw [List.getD_eq_getElem?_getD, hpk]; rfl
      have hmx : (modTo l ps k)[k]? = some x := by rw [modTo_get l ps k k (by rw [← Hn.out]; exact hkn), if_neg (Nat.lt_irrefl _), hgx]
      have hst := modTo_set l ps k (by rw [← Hn.out]; exact hkn)
      have hsk := modTo_skip l ps k (by rw [← Hn.out]; exact hkn)
      have hsu := sumTo_succ l ps k
      rw [hgx, hgp] at hst hsk hsu
      have hsl := sumTo_le l ps k
      obtain ⟨b2, off2, rfl, hcell2⟩ := Hx2.out (by omega)
      obtain ⟨q0, q1, q2⟩ := IsPt.row hcell2 hpk
      have d0 := (Hb.out.cell (block_lt_of_cell q0)).trans q0
      have d1 := (Hb.out.cell (block_lt_of_cell q1)).trans q1
      have d2 := (Hb.out.cell (block_lt_of_cell q2)).trans q2
      have hb2 : b2 < wo.heap.size := block_lt_of_cell d0
      have o2 := hown.cells (g := g) rfl _ _ (flat_get en_len _ k x hmx 2 _ rfl)
      have o3 := hown.cells (g := g) rfl _ _ (flat_get en_len _ k x hmx 3 _ rfl)
      rw [plain_add', Nat.zero_add] at o2 o3
      obtain ⟨⟨u, s, kd⟩, val⟩ := x
      dsimp only at o2 o3
      have Hst := Lib.hid hst
      have Hsk := Lib.hid hsk
      have Hsu := Lib.hid hsu
      have Hsl := Lib.hid hsl
      have Hmx := Lib.hid hmx
      have Hown := Lib.hid hown
      have hb2w : b2 < w.heap.size := block_lt_of_cell q0
      have hbg : b2 ≠ g := fun e => by omega
      have hbg2 : g ≠ b2 := fun e => hbg e.symm
      have htx := Lib.hid (text_any p wo)
      clear hst hsk hsu hsl hmx hown hgx hgp hxk hpk q0 q1 q2 hcell2
      cases hok : okT p with
      | false =>
        rw [hok] at htx
        have Hok := Lib.hid hok
        rw [if_neg (fun q => by rw [Hok.out] at q; exact absurd q.1 (by decide))] at Hsu
        clear hok
        go_wp2_with (fail)
        refine htx.out.mono ?_
        rintro e w4 ⟨rfl, hb4⟩
        have r2 := (hb4.cell (block_lt_of_cell o2)).trans o2
        have r3 := (hb4.cell (block_lt_of_cell o3)).trans o3
        have hown4 := own_below Hown.out hb4
        have rz := fun j => own_frozen hown4 j
        have Hown4 := Lib.hid hown4
        have hsum4 := (hb4.block _ (Array.getElem?_eq_some_iff.1 Hsum.out).1).trans Hsum.out
        have Hsum4 := Lib.hid hsum4
        have Hb4 := Lib.hid (bel_trans Hb.out hb4 (Nat.le_refl _) : RowKit.Below w.heap.size w w4)
        clear hb4 hown4 hsum4 d0 d1 d2 o2 o3
        by_cases hk3 : kd = 3
        · subst hk3
          have hmod : modE p ⟨⟨u, s, 3⟩, val⟩ = ⟨⟨u, s, 3⟩, noneB⟩ := by unfold modE; rw [if_neg (by rw [Hok.out]; decide), if_pos rfl]
          rw [hmod] at Hst
          have Hset := Lib.hid (own_setAt Hown4.out (k * 4 + 3) (.string noneB) (by omega))
          rw [flat_set en_len _ k _ ⟨⟨u, s, 3⟩, noneB⟩ 3 _ Hmx.out (by omega) rfl, Hst.out] at Hset
          have Hst2 := Lib.hid ((Below.setCell Hb4.out (p := ⟨g, k * 4 + 3, none⟩) (Nat.le_trans hbs hwg) (.string noneB)))
          unfold noneB at Hset Hst2
          clear hmod Hst Hsk
          go_wp2_with (fail)
          go_roundw
          case rel => exact ⟨k + 1, by omega, by go_num, Hset.out, by rw [Hsu.out]; exact (Below.heap_setCell _ _ _ _ hne).trans Hsum4.out, Hst2.out⟩
          case measure => simp [intOf]; omega
        · have hmod : modE p ⟨⟨u, s, kd⟩, val⟩ = ⟨⟨u, s, kd⟩, val⟩ := by unfold modE; rw [if_neg (by rw [Hok.out]; decide), if_neg hk3]
          have Hsk2 := Lib.hid (Hsk.out hmod)
          clear hmod Hst Hsk
          go_wp2_with (fail)
          go_roundw
          case rel => exact ⟨k + 1, by omega, by go_num, by rw [Hsk2.out]; exact Hown4.out, by rw [Hsu.out]; exact Hsum4.out, Hb4.out⟩
          case measure => simp [intOf]; omega
      | true =>
        obtain ⟨-, e1, e2, e3, b1, b2', b3, b4⟩ := okT_nat hok
        rw [hok] at htx
        obtain ⟨pz, pa, pl⟩ := p
        dsimp only at e1 e2 e3 b1 b2' b3 b4 d0 d1 d2
        generalize pz.toNat = Z at *
        generalize pa.toNat = A at *
        generalize pl.toNat = L at *
        subst e1 e2 e3
        have Hok := Lib.hid hok
        clear hok
        go_wp2_with (fail)
        refine htx.out.mono ?_
        rintro e w4 ⟨rfl, hb4⟩
        have f0 := (hb4.cell (block_lt_of_cell d0)).trans d0
        have f1 := (hb4.cell (block_lt_of_cell d1)).trans d1
        have f2 := (hb4.cell (block_lt_of_cell d2)).trans d2
        have r2 := (hb4.cell (block_lt_of_cell o2)).trans o2
        have r3 := (hb4.cell (block_lt_of_cell o3)).trans o3
        have hown4 := own_below Hown.out hb4
        have rz := fun j => own_frozen hown4 j
        have Hown4 := Lib.hid hown4
        have hsum4 := (hb4.block _ (Array.getElem?_eq_some_iff.1 Hsum.out).1).trans Hsum.out
        have Hsum4 := Lib.hid hsum4
        have Hb4 := Lib.hid (bel_trans Hb.out hb4 (Nat.le_refl _) : RowKit.Below w.heap.size w w4)
        clear hb4 hown4 hsum4 d0 d1 d2 o2 o3
        have hmod : modE ((Z : Int), (A : Int), (L : Int)) ⟨⟨u, s, kd⟩, val⟩ = ⟨⟨u, s, kd⟩, ptText ((Z : Int), (A : Int), (L : Int))⟩ := by unfold modE; rw [if_pos Hok.out]
        rw [hmod] at Hst
        have Hset := Lib.hid (own_setAt Hown4.out (k * 4 + 3) (.string (ptText ((Z : Int), (A : Int), (L : Int)))) (by omega))
        rw [flat_set en_len _ k _ ⟨⟨u, s, kd⟩, ptText ((Z : Int), (A : Int), (L : Int))⟩ 3 _ Hmx.out (by omega) rfl, Hst.out] at Hset
        have Hst2 := Lib.hid ((Below.setCell Hb4.out (p := ⟨g, k * 4 + 3, none⟩) (Nat.le_trans hbs hwg) (.string (ptText ((Z : Int), (A : Int), (L : Int))))))
        clear hmod Hst Hsk
        generalize ptText ((Z : Int), (A : Int), (L : Int)) = T at *
        by_cases hk3 : kd = 3
        · subst hk3
          rw [if_pos ⟨Hok.out, rfl⟩] at Hsu
          have hget := zArr_get (sumTo l ps k) b1
          have hset := zArr_set (sumTo l ps k) (rsz L) b1
          have hF := Hsl.out Z
          have hS := rsz_le L (by omega)
          have hsz := fun W => rsize_any L W (by omega)
          have ca := (cell_blkR Hsum4.out Z).trans hget
          have cz := frozen_blkR Hsum4.out Z
          have Hsetz := Lib.hid hset
          clear hset hget
          generalize hFF : sumTo l ps k Z = F at *
          generalize hSS : rsz L = S at *
          have hi0 : (Z : Int) < 64 := by omega
          have hF2 : F ≤ 60 * 65543 := Nat.le_trans hF (Nat.mul_le_mul_right _ (by omega))
          have hi1 : (F : Int) + (S : Int) ≤ 9223372036854775807 := by omega
          have HF := Lib.hid hF
          have hkm : k < m := by omega
          clear hF hFF hSS
          go_wp2_with (fail)
          refine still_tail 15 (by kernel_rfl) (by kernel_rfl) ?_
          simp only [List.take_succ_cons, List.take_zero, List.drop_succ_cons, List.drop_zero]
          repeat (first | still_call (hsz _) | still_step)
          try refine wpStill_nil ?_
          go_wp2
          go_roundw
          case rel => exact ⟨k + 1, by omega, by go_num, ownsRow_setCell_other Hset.out (a := ⟨w3.heap.size, Z, none⟩) (by intro e; injection e with e; exact hne e.symm) _, (blk_set ((Below.heap_setCell _ _ _ _ hne).trans Hsum4.out)).trans (by rw [Hsu.out, ← Hsetz.out, Int.natCast_add]), (Hst2.out.setCell hws _).drew⟩
          case measure => simp [intOf]; omega
        · rw [if_neg (fun q => hk3 q.2)] at Hsu
          go_wp2_with (fail)
          go_roundw
          case rel => exact ⟨k + 1, by omega, by go_num, Hset.out, by rw [Hsu.out]; exact (Below.heap_setCell _ _ _ _ hne).trans Hsum4.out, Hst2.out⟩
          case measure => simp [intOf]; omega
      --@]
    · obtain rfl : n = k := by omega
      have hgl : (modTo l ps n).length = n := by rw [modTo_len, ← Hn.out]
      have hbt : bytesTo (modTo l ps n) n = sumTo l ps n := by
        have := sums_eq l ps n (by rw [← Hn.out]; exact Nat.le_refl _)
        rw [← Hn.out] at this; exact this
      have hsz : ∀ x ∈ modTo l ps n, x.val.size ≤ 1000000 := modTo_size ps n (fun x hx => by
        obtain ⟨i, hi⟩ := List.getElem?_of_mem hx
        exact (right_at Hr.out hi).1)
      have hes : IsEs wo (.slice a3 n c3) (modTo l ps n) := isSl_own en_len (by rw [hgl]; exact hown)
      have hbound : ∀ z, sumTo l ps n z ≤ 60 * 65543 := fun z => Nat.le_trans (sumTo_le l ps n z) (Nat.mul_le_mul_right _ (by omega))
      have hfirst : ∀ i, i < n → ∃ x y, l[i]? = some x ∧ (modTo l ps n)[i]? = some y ∧ y.key = x.key := by
        intro i hi
        have hx := List.getElem?_eq_getElem (l := l) (i := i) (by rw [← Hn.out]; exact hi)
        refine ⟨_, _, hx, modTo_get l ps n i (by rw [← Hn.out]; exact hi), ?_⟩
        rw [if_pos hi, modE_key, List.getD_eq_getElem?_getD, hx]; rfl
      generalize modTo l ps n = G at *
      have href := refs_any _ G wo hes (by omega) hsz
      rw [hgl, hbt] at href
      generalize sumTo l ps n = f at *
      have Href := Lib.hid href
      have Hgl := Lib.hid hgl
      have Hbt := Lib.hid hbt
      have Hsz := Lib.hid hsz
      have Hes := Lib.hid hes
      have Hbound := Lib.hid hbound
      have Hfirst := Lib.hid hfirst
      have Hown := Lib.hid hown
      have hws2 := Hb.out.size
      clear href hgl hbt hsz hes hbound hfirst hown
      have hai : (Try.prog.info? 35).map (·.size) = some (zArr f).size := by
        rw [show (zArr f).size = 64 by simp [zArr]]; kernel_rfl
      have Hai := Lib.hid hai
      clear hai
      go_wp2_with fail
      refine Href.out.mono ?_
      rintro e w5 ⟨vr, rfl, hor, hbr⟩
      obtain ⟨ra, rc, rfl⟩ := own_slice hor
      have hsum5 := (hbr.block _ (Array.getElem?_eq_some_iff.1 Hsum.out).1).trans Hsum.out
      have Hsum5 := Lib.hid hsum5
      have Hb5 := Lib.hid (bel_trans Hb.out hbr (Nat.le_refl _) : RowKit.Below w.heap.size w w5)
      have Hown5 := Lib.hid (own_below Hown.out hbr)
      have Hor := Lib.hid hor
      obtain ⟨RL, hRL⟩ : ∃ RL, RL = (refsTo f 64).length := ⟨_, rfl⟩
      rw [← hRL] at Hor ⊢
      have hRle : RL ≤ 64 := by rw [hRL]; exact refsTo_le f 64
      have HRL := Lib.hid hRL
      clear hsum5 hbr hor hRL Hsum Href Hb Hown
      go_wp2_with (with_reducible refine wpList_load_row rfl 35 (.tmp 8) rfl w3.heap.size rfl 35 (zArr f) (0, 0) _ Hsum5.out Try.underlying35 rfl Hai.out ?_)
      go_loop [13, 88] (fun kv i => ∃ z : Nat, z ≤ 64 ∧ i = .int .i64 z ∧ kv = .int .i64 ((refsTo f z).length : Nat)) (fun _ i => 64 - (intOf i).toNat)
      case atStart => exact ⟨0, Nat.zero_le _, rfl, rfl⟩
      case round =>
        obtain ⟨zz, hz, rfl, rfl⟩ := hrel
        by_cases hz2 : zz < 64
        · have hget := fun W => index_arr f hz2 W
          have hzi : (zz : Int) < 64 := by omega
          --@[
          by_cases hpos : f zz = 0
          · have hsk := refsTo_skip f hpos
            rw [hpos] at hget
            have Hsk := Lib.hid hsk
            obtain ⟨q, hq⟩ : ∃ q, q = (refsTo f zz).length := ⟨_, rfl⟩
            rw [← hq]
            have Hq := Lib.hid hq
            clear hsk hpos hq
            go_wp2
            go_round
            case rel => exact ⟨zz + 1, by omega, by go_num, by rw [Hsk.out, Hq.out]⟩
            case measure => simp [intOf]; omega
          · obtain ⟨hat, hlt, hnx⟩ := refsTo_at f hz2 (by omega)
            rw [← HRL.out] at hlt
            have hpos2 : 0 < (RL : Nat) := by omega
            obtain ⟨rb, rcc, hrv, hrw, hrl⟩ := Hor.out.form hpos2
            injection hrv with hrv _ hrc
            subst hrv hrc
            have c0 := Hor.out.cells (g := rb) rfl _ _ (flat_get refC_len _ _ _ hat 0 _ rfl)
            have c1 := Hor.out.cells (g := rb) rfl _ _ (flat_get refC_len _ _ _ hat 1 _ rfl)
            rw [plain_add', Nat.zero_add, Nat.add_zero] at c0
            rw [plain_add', Nat.zero_add] at c1
            have Hnx := Lib.hid hnx
            clear hat hnx
            generalize (refsTo f zz).length = q at *
            generalize hFF : f zz = F at *
            have hF1 : ¬ (F : Int) = 0 := by omega
            have hF2 : ((F : Int) == 0) = false := by simpa using hF1
            have hF3 : (F == 0) = false := by simpa using hpos
            have hwr : q + 1 ≤ 64 := by omega
            clear hFF
            go_wp2
            go_round
            case rel => exact ⟨zz + 1, by omega, by go_num, by rw [Hnx.out]; go_num⟩
            case measure => simp [intOf]; omega
          --@]
        · obtain rfl : zz = 64 := by omega
          rw [← HRL.out]
          rcases Nat.eq_zero_or_pos n with hn0 | hn0
          · have hG : G = [] := List.eq_nil_of_length_eq_zero (by rw [Hgl.out]; exact hn0)
            subst hG
            have hf : f = fun _ => 0 := by rw [← Hbt.out, hn0]; rfl
            have hR0 : RL = 0 := by rw [HRL.out, hf]; rfl
            have Hh5 := Lib.hid (Hown5.out)
            have hes5 : IsEs w5 (.slice a3 n c3) [] := isSl_own (e := 30) (base := w1.heap.size) en_len (by rw [hn0] at Hh5 ⊢; exact Hh5.out)
            have hmeta := meta_none _ z w5 hes5
            have Hmeta := Lib.hid hmeta
            clear hmeta hes5 Hh5 hf Hbt Hgl Hfirst Hsz Hes Hown5 hk hkn
            subst hn0 hR0
            go_wp2_with fail
            refine Hmeta.out.mono ?_
            rintro e w6 ⟨rfl, hb6⟩
            unfold metaV Ky.nil
            have Hb6 := Lib.hid (bel_trans Hb5.out hb6 (Nat.le_refl _) : RowKit.Below w.heap.size w w6)
            clear hb6
            go_wp2_with fail
            refine (awake_any _).mono ?_
            rintro e w7 ⟨rfl, hb7⟩
            have hb7w := bel_trans (Hb6.out.alloc Hb6.out.size _) hb7 (Nat.le_refl _)
            go_wp2
            go_ret
            exact ⟨rfl, hb7w⟩
          · obtain ⟨x, y, hlx, hgx, hkx⟩ := Hfirst.out 0 hn0
            obtain ⟨x2, y2, hlx2, hgx2, hkx2⟩ := Hfirst.out (n - 1) (by omega)
            have hes5 : IsEs w5 (.slice a3 n c3) G := isSl_own en_len (by rw [Hgl.out]; exact Hown5.out)
            have hmeta := meta_some _ G y y2 z w5 hes5 (by rw [Hgl.out]; omega) Hsz.out hgx (by rw [Hgl.out]; exact hgx2)
            rw [Hgl.out, Hbt.out, ← HRL.out] at hmeta
            have hcm : cmpK x.key x2.key ≤ 0 := right_cmp Hr.out (n - 1) 0 x x2 hlx (by rw [Nat.zero_add]; exact hlx2)
            have hok1 := (right_at Hr.out hlx).2.1
            have hok2 := (right_at Hr.out hlx2).2.1
            rw [hkx, hkx2] at hmeta
            have hg0 := Hown5.out
            have Hmeta := Lib.hid hmeta
            clear hmeta
            go_wp2_with fail
            refine Hmeta.out.mono ?_
            rintro e w6 ⟨vr, rfl, hor6, hb6⟩
            unfold metaV
            obtain ⟨a6, c6, rfl⟩ := own_slice hor6
            have hrr : ∀ o, IsRr (w6.alloc o) (.slice a6 RL c6) ((refsTo f 64).map castR) := fun o => by
              refine isSl_own (base := w5.heap.size) (e := 45) rfC_len ?_
              rw [flat_cast, List.length_map, ← HRL.out]
              exact hor6.alloc o
            have hrok : refsOk ((refsTo f 64).map castR) ((refsTo f 64).map castR).length = true := refs_ok f (fun z => Nat.le_trans (Hbound.out z) (by decide))
            have hrl : ((refsTo f 64).map castR).length ≤ 1000000 := by rw [List.length_map, ← HRL.out]; omega
            have hb6w : Below w.heap.size w w6 := bel_trans Hb5.out hb6 (Nat.le_refl _)
            generalize (refsTo f 64).map castR = R at *
            have hmo : metaOk z n x.key x2.key R = zoneOk z := by
              unfold metaOk headOk
              rw [hrok, hok1, hok2]
              have q1 : (1 : Int) ≤ (n : Int) := by omega
              have q2 : (n : Int) ≤ 65536 := by omega
              simp [q1, q2, hcm]
            obtain ⟨gb, gc, hgv, hgw, hgl2⟩ := Hown5.out.form hn0
            injection hgv with hgv _ hgc
            subst hgv hgc
            have hgl6 : gb < w5.heap.size := hgl2
            have hin : ∀ (j : Nat) (u : Value), (flat En.cells G)[j]? = some u → ∀ o, (w6.alloc o).cell? ⟨gb, j, none⟩ = some u := by
              intro j u hj o
              have h1 := Hown5.out.cells (g := gb) rfl j u hj
              rw [plain_add', Nat.zero_add] at h1
              exact grow_alloc ((hb6.cell (p := ⟨gb, j, none⟩) hgl6).trans h1) o
            have i0 := hin _ _ (flat_get en_len _ 0 _ hgx 0 _ rfl)
            have i1 := hin _ _ (flat_get en_len _ 0 _ hgx 1 _ rfl)
            have i2 := hin _ _ (flat_get en_len _ 0 _ hgx 2 _ rfl)
            have j0 := hin _ _ (flat_get en_len _ (n - 1) _ hgx2 0 _ rfl)
            have j1 := hin _ _ (flat_get en_len _ (n - 1) _ hgx2 1 _ rfl)
            have j2 := hin _ _ (flat_get en_len _ (n - 1) _ hgx2 2 _ rfl)
            rw [Nat.zero_mul, Nat.zero_add] at i0 i1 i2
            rw [Nat.add_zero] at j0
            rw [hkx] at i0 i1 i2
            rw [hkx2] at j0 j1 j2
            have HI := Lib.hid (fun o => And.intro (i0 o) (And.intro (i1 o) (i2 o)))
            have HJ := Lib.hid (fun o => And.intro (j0 o) (And.intro (j1 o) (j2 o)))
            have Hrr := Lib.hid hrr
            have Hmo := Lib.hid hmo
            have Hrl := Lib.hid hrl
            have Hb6 := Lib.hid hb6w
            clear hlx hgx hkx hlx2 hgx2 hkx2 hes5 hcm hg0 hor6 hb6 hrr hrok hrl hmo hin i0 i1 i2 j0 j1 j2 hgl6 hgl2 hgw hb6w hok1 hok2 hk
            obtain ⟨⟨u, s, kd⟩, val⟩ := x
            obtain ⟨⟨u2, s2, kd2⟩, val2⟩ := x2
            dsimp only at HI HJ Hmo
            have hn1 : (n : Int) - 1 < (n : Int) := by omega
            have hn2 : (0 : Int) ≤ (n : Int) - 1 := by omega
            have hn4 : (1 : Int) ≤ (n : Int) := by omega
            have hwr : IntKind.i64.wrap ((n : Int) - 1) = (n : Int) - 1 := by
              have := Lib.wrap_i64_small (n - 1) (by omega)
              rw [Int.natCast_sub hn0] at this
              exact this
            have hn3 : ((n : Int) - 1).toNat = n - 1 := by omega
            have hn5 : ((n : Int) == 0) = false := by simp; omega
            have hn6 : (n == 0) = false := by simp; omega
            have hn7 : ¬ (n : Int) = 0 := by omega
            have hn8 : ¬ n = 0 := by omega
            have Hw := Lib.hid hwr
            clear hwr
            go_wp2_with fail
            have hbk7 : (w6.alloc (.cells #[.int .i64 z, .int .i64 (n : Int), .string u, .int .i64 s, .int .i64 kd, .string u2, .int .i64 s2, .int .i64 kd2, .slice a6 RL c6] 47)).heap[w6.heap.size]? = some (.cells #[.int .i64 z, .int .i64 (n : Int), .string u, .int .i64 s, .int .i64 kd, .string u2, .int .i64 s2, .int .i64 kd2, .slice a6 RL c6] 47 (0, 0)) := by
              show (w6.heap.push _)[w6.heap.size]? = _; rw [Array.getElem?_push_size]
            have hi0 := HI.out (.cells #[.int .i64 z, .int .i64 (n : Int), .string u, .int .i64 s, .int .i64 kd, .string u2, .int .i64 s2, .int .i64 kd2, .slice a6 RL c6] 47)
            have hj0 := HJ.out (.cells #[.int .i64 z, .int .i64 (n : Int), .string u, .int .i64 s, .int .i64 kd, .string u2, .int .i64 s2, .int .i64 kd2, .slice a6 RL c6] 47)
            have hr7 := Hrr.out (.cells #[.int .i64 z, .int .i64 (n : Int), .string u, .int .i64 s, .int .i64 kd, .string u2, .int .i64 s2, .int .i64 kd2, .slice a6 RL c6] 47)
            have hb7 : Below w.heap.size w (w6.alloc (.cells #[.int .i64 z, .int .i64 (n : Int), .string u, .int .i64 s, .int .i64 kd, .string u2, .int .i64 s2, .int .i64 kd2, .slice a6 RL c6] 47)) := Hb6.out.alloc Hb6.out.size _
            generalize w6.alloc (.cells #[.int .i64 z, .int .i64 (n : Int), .string u, .int .i64 s, .int .i64 kd, .string u2, .int .i64 s2, .int .i64 kd2, .slice a6 RL c6] 47) = W7 at *
            obtain ⟨k0, k1, k2⟩ := hi0
            obtain ⟨l0, l1, l2⟩ := hj0
            have i0 := cell_regrown k0
            have i1 := cell_regrown k1
            have i2 := cell_regrown k2
            have j0 := cell_regrown l0
            have j1 := cell_regrown l1
            have j2 := cell_regrown l2
            have m0 := cell_regrown ((cell_blkR hbk7 0).trans (show _ = some (.int .i64 z) from rfl))
            have m1 := cell_regrown ((cell_blkR hbk7 1).trans (show _ = some (.int .i64 (n : Int)) from rfl))
            have m2 := cell_regrown ((cell_blkR hbk7 2).trans (show _ = some (.string u) from rfl))
            have m3 := cell_regrown ((cell_blkR hbk7 3).trans (show _ = some (.int .i64 s) from rfl))
            have m4 := cell_regrown ((cell_blkR hbk7 4).trans (show _ = some (.int .i64 kd) from rfl))
            have m5 := cell_regrown ((cell_blkR hbk7 5).trans (show _ = some (.string u2) from rfl))
            have m6 := cell_regrown ((cell_blkR hbk7 6).trans (show _ = some (.int .i64 s2) from rfl))
            have m7 := cell_regrown ((cell_blkR hbk7 7).trans (show _ = some (.int .i64 kd2) from rfl))
            have m8 := cell_regrown ((cell_blkR hbk7 8).trans (show _ = some (.slice a6 RL c6) from rfl))
            have Hb7 := Lib.hid hb7
            have hck : Hid (∀ (d : Nat) (os : Array Obj), Calls Try.prog 17 #[.agg #[.int .i64 z, .int .i64 (n : Int), .string u, .int .i64 s, .int .i64 kd, .string u2, .int .i64 s2, .int .i64 kd2, .slice a6 RL c6]] (grow (redrawn W7 d) os) fun e w'' => e = .returned (.int .i64 (chkM (zoneOk z))) ∧ ∃ p : Regrown, w'' = grow (redrawn W7 p.d) p.os) := fun d os => Calls.regrown_of (by
              have := lcheck_any z n ⟨u, s, kd⟩ ⟨u2, s2, kd2⟩ (.slice a6 RL c6) R (grow (redrawn W7 d) os) (hr7.below (below_regrown W7 d os)) Hrl.out
              rw [Hmo.out] at this
              exact this)
            have haw : Hid (∀ (d : Nat) (os : Array Obj), Calls Try.prog 9 #[] (grow (redrawn W7 d) os) fun e w'' => e = .returned (.bool true) ∧ ∃ p : Regrown, w'' = grow (redrawn W7 p.d) p.os) := fun d os => Calls.regrown_of (awake_any _)
            have hwr := Hw.out
            clear k0 k1 k2 l0 l1 l2 hbk7 hb7 hr7
            by_cases hz0 : 0 ≤ z
            · by_cases hz1 : z < 64
              · have hck2 := hck.out
                rw [show chkM (zoneOk z) = 0 by unfold chkM zoneOk; simp [hz0, hz1]] at hck2
                have Hck := Lib.hid hck2
                clear hck2 hck
                refine wp_region_quiet_below (by kernel_rfl) (by kernel_rfl) ?_
                repeat (go_big_quiet_step (first | with_reducible exact Hck.out _ _ | with_reducible exact haw.out _ _))
                refine wpQuiet_nil ?_
                intro _ hw'
                obtain ⟨⟨dq, osq⟩, hw''⟩ := hw'
                subst hw''
                have hbq : Below w.heap.size w (grow (redrawn W7 dq) osq) := Hb7.out.trans ((below_regrown W7 dq osq).mono Hb7.out.size)
                clear hwr
                go_wp2
                go_ret
                exact ⟨rfl, hbq⟩
              · have hd1 : decide (z < 64) = false := by simp [hz1]
                have hck2 := hck.out
                rw [show chkM (zoneOk z) = 150 by unfold chkM zoneOk; simp [hz0, hz1]] at hck2
                have Hck := Lib.hid hck2
                clear hck2 hck
                refine wp_region_quiet_below (by kernel_rfl) (by kernel_rfl) ?_
                repeat (go_big_quiet_step (first | with_reducible exact Hck.out _ _ | with_reducible exact haw.out _ _))
                refine wpQuiet_nil ?_
                intro _ hw'
                obtain ⟨⟨dq, osq⟩, hw''⟩ := hw'
                subst hw''
                have hbq : Below w.heap.size w (grow (redrawn W7 dq) osq) := Hb7.out.trans ((below_regrown W7 dq osq).mono Hb7.out.size)
                clear hwr
                go_wp2
                go_ret
                exact ⟨rfl, hbq⟩
            · have hd0 : decide (0 ≤ z) = false := by simp [hz0]
              have hck2 := hck.out
              rw [show chkM (zoneOk z) = 150 by unfold chkM zoneOk; simp [hz0]] at hck2
              have Hck := Lib.hid hck2
              clear hck2 hck
              refine wp_region_quiet_below (by kernel_rfl) (by kernel_rfl) ?_
              repeat (go_big_quiet_step (first | with_reducible exact Hck.out _ _ | with_reducible exact haw.out _ _))
              refine wpQuiet_nil ?_
              intro _ hw'
              obtain ⟨⟨dq, osq⟩, hw''⟩ := hw'
              subst hw''
              have hbq : Below w.heap.size w (grow (redrawn W7 dq) osq) := Hb7.out.trans ((below_regrown W7 dq osq).mono Hb7.out.size)
              clear hwr
              go_wp2
              go_ret
              exact ⟨rfl, hbq⟩
theorem compactMetas_walk (v : Value) (l : List En) (v2 : Value) (ps : List Pt) (z : Int) (w : World) (h : IsEs w v l) (h2 : IsPt w v2 ps) {p : Prop} (_ : p) :
    Calls Try.prog 4 #[v, v2, .int .i64 z] w fun e w' => e = .returned (.bool true) ∧ Below w.heap.size w w' := by
  cases hr : rightE l 60 with
  | false => exact metas_no v v2 l ps z w h h2 (.inl hr)
  | true =>
    by_cases hm : l.length ≤ ps.length
    · exact metas_yes v v2 l ps z w h h2 hr hm
    · exact metas_no v v2 l ps z w h h2 (.inr (by omega))
end Go.Proofs.Ytkjfjcigmmooiaa.Tithe
