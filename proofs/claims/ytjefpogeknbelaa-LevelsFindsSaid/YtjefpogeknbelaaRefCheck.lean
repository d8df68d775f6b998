/- The document's Check of a version: walked. -/
import Derived.Test.YtjefpogeknbelaaRefHas
import Derived.Test.YtjefpogeknbelaaLevAppC
import Derived.BigQuiet
namespace Go.Proofs.Ytjefpogeknbelaa.Tithe
open Go.RowKit Go.Sort Go.Shelf
set_option linter.unusedVariables false
set_option linter.unusedSimpArgs false
set_option maxRecDepth 100000
theorem intInfo : (Try.prog.info? 3).map (fun i => (i.zero, i.size, i.bytes)) = some (some (.int .i64 0), 1, 8) := by kernel_rfl
abbrev OwnZ (W : World) (base : Nat) (v : Value) (zs : List Int) : Prop := W.ownsRow base 3 1 v zs.length (flat dzC zs)
theorem push_z (W0 : World) (base : Nat) (xa : Option Addr) (rl xc : Nat) (zs : List Int) (z : Int) (h : OwnZ W0 base (.slice xa rl xc) zs) (hl : rl ≤ 1000000) (hb : base ≤ W0.heap.size) :
    ∃ ya yc w2, (Builtin.append_ #[41, 41] 41 #[.slice xa rl xc, .slice (some ⟨W0.heap.size, 0, none⟩) 1 1]).run Try.prog (W0.alloc (.cells #[.int .i64 z] 3)) = .ok (.slice ya (rl + 1) yc) w2 ∧
      OwnZ w2 base (.slice ya (rl + 1) yc) (zs ++ [z]) ∧ (W0.alloc (.cells #[.int .i64 z] 3)).grownBy w2 (Value.slice xa rl xc).ownBlock := by
  obtain ⟨i0, hi0, hz0, hz1, hz2⟩ := info_partsL intInfo
  have h' : OwnZ (W0.alloc (.cells #[.int .i64 z] 3)) base (.slice xa rl xc) zs := own_below h ((Below.refl _ _).alloc (Nat.le_refl _) _)
  have hrl : rl = zs.length := own_n h
  obtain ⟨g, yc, w2, hrun, hown, hg, hlies, -⟩ := run_append_lies (P := Try.prog) (W0.alloc (.cells #[.int .i64 z] 3)) 41 41 base 3 i0 (.int .i64 0) 1 8 Try.underlying41 hi0 hz0 hz1 hz2 rfl (by decide)
    (.slice xa rl xc) zs.length (flat dzC zs) h' ⟨W0.heap.size, 0, none⟩ 1 1 (dzC z) rfl (newsL _ _ rfl _ _ rfl) (by intro u hu; simp [dzC] at hu; subst hu; rfl) (by omega) (by unfold maxLen; omega) (by omega) (by simp; omega) _ rfl
  refine ⟨some ⟨g, 0, none⟩, yc, w2, by rw [hrl] at hrun ⊢; exact hrun, ?_, hg⟩
  rw [hrl]
  unfold OwnZ
  rw [List.length_append, flat_append, flat_one]
  exact hown
theorem own_not {W : World} {base b : Nat} {e t : TypeId} {size n : Nat} {x : Value} {xs : List Value} {cs : Array Value} {fr : Nat × Nat} (h : W.ownsRow base e size x n xs) (hb : W.heap[b]? = some (.cells cs t fr)) (hne : t ≠ e) : x.ownBlock ≠ some b := by
  intro q
  rcases h.2 with ⟨rfl, _⟩ | ⟨g, cap, cur, rfl, _, hg, _⟩
  · cases q
  · cases q
    rw [hb] at hg
    injection hg with hg
    injection hg with _ hg _
    exact hne hg
theorem push_other {W0 w2 : World} {base b : Nat} {e t : TypeId} {size n : Nat} {x : Value} {xs : List Value} {cs : Array Value} {fr : Nat × Nat} {ob : Obj} (h : W0.ownsRow base e size x n xs) (hg : (W0.alloc ob).grownBy w2 x.ownBlock) (hb : W0.heap[b]? = some (.cells cs t fr)) (hne : t ≠ e) : w2.heap[b]? = some (.cells cs t fr) :=
  (hg.block b (blk_lt (blk_old hb ob)) (own_not h hb hne).symm).trans (blk_old hb ob)
theorem push_bel {w W0 w2 : World} {B base n : Nat} {e : TypeId} {size : Nat} {x : Value} {xs : List Value} {ob : Obj} (hb : Below B w W0) (h : W0.ownsRow base e size x n xs) (hg : (W0.alloc ob).grownBy w2 x.ownBlock) (hB : B ≤ base) (hs : base ≤ W0.heap.size) : Below B w w2 :=
  (hb.alloc (Nat.le_trans hB hs) _).grown hg (by rw [World.size_alloc]; omega) (fun g q => by
    rcases h.2 with ⟨rfl, _⟩ | ⟨g', cap, cur, rfl, hb', _⟩
    · cases q
    · cases q; exact Nat.le_trans hB hb')
/-! ### the zones seen -/
theorem tabsOk_lt {ts : List (Nat × Mr)} : ∀ {n k : Nat}, tabsOk ts n = true → k < n → tabOk ts k = true
  | n + 1, k, h, hk => by
    have h' : (tabsOk ts n && tabOk ts n) = true := h
    rw [Bool.and_eq_true] at h'
    by_cases e : k = n
    · subst e; exact h'.2
    · exact tabsOk_lt h'.1 (by omega)
theorem seenZ_iff (ts : List (Nat × Mr)) (z : Nat) : ∀ g, seenZ ts g z = true ↔ ∃ j, j < g ∧ z = (ts.getD j (0, Mr.nil)).2.1.z.toNat
  | 0 => by simp [seenZ]
  | g + 1 => by
    unfold seenZ
    split
    · rename_i h
      exact ⟨fun _ => ⟨g, Nat.lt_succ_self _, h⟩, fun _ => rfl⟩
    · rename_i h
      rw [seenZ_iff ts z g]
      constructor
      · rintro ⟨j, hj, e⟩; exact ⟨j, by omega, e⟩
      · rintro ⟨j, hj, e⟩
        by_cases q : j = g
        · subst q; exact absurd e h
        · exact ⟨j, by omega, e⟩
def zsP (ts : List (Nat × Mr)) (g : Nat) : List Int := (ts.take g).map fun p => p.2.1.z
theorem zsP_get {ts : List (Nat × Mr)} {g j : Nat} (hj : j < g) (hg : g ≤ ts.length) : (zsP ts g)[j]? = some (ts.getD j (0, Mr.nil)).2.1.z := by
  unfold zsP
  rw [List.getElem?_map, List.getElem?_take_of_lt hj, List.getD_eq_getElem?_getD, List.getElem?_eq_getElem (by omega)]; rfl
theorem zsP_len {ts : List (Nat × Mr)} {g : Nat} (hg : g ≤ ts.length) : (zsP ts g).length = g := by
  unfold zsP; rw [List.length_map, List.length_take]; omega
theorem zsP_succ {ts : List (Nat × Mr)} {g : Nat} {p : Nat × Mr} (h : ts[g]? = some p) : zsP ts (g + 1) = zsP ts g ++ [p.2.1.z] := by
  unfold zsP; rw [List.take_add_one, h, List.map_append]; rfl
theorem seen_yes {ts : List (Nat × Mr)} {g k : Nat} {p : Nat × Mr} {y : Int} (h : ts[g]? = some p) (hk : (zsP ts g)[k]? = some y) (hg : g ≤ ts.length) (e : y = p.2.1.z) : tabOk ts g = false := by
  have hkg : k < g := by have := (List.getElem?_eq_some_iff.1 hk).1; rwa [zsP_len hg] at this
  rw [zsP_get hkg hg] at hk
  injection hk with hk
  have hgd : ts.getD g (0, Mr.nil) = p := by rw [List.getD_eq_getElem?_getD, h]; rfl
  unfold tabOk
  rw [hgd, (seenZ_iff ts _ g).2 ⟨k, hkg, by rw [hk, e]⟩]; simp
theorem seen_no {ts : List (Nat × Mr)} {g : Nat} {p : Nat × Mr} (h : ts[g]? = some p) (hok : mOk p.2.1 = true) (ht : tabsOk ts g = true) (hn : ∀ (k : Nat) (y : Int), (zsP ts g)[k]? = some y → y ≠ p.2.1.z) : tabOk ts g = true := by
  have hgd : ts.getD g (0, Mr.nil) = p := by rw [List.getD_eq_getElem?_getD, h]; rfl
  have hgl : g ≤ ts.length := Nat.le_of_lt (List.getElem?_eq_some_iff.1 h).1
  unfold tabOk
  rw [hgd, hok, Bool.true_and, Bool.not_eq_true']
  cases hs : seenZ ts g p.2.1.z.toNat with
  | false => rfl
  | true =>
    obtain ⟨j, hj, e⟩ := (seenZ_iff ts _ g).1 hs
    have h1 := tabsOk_lt ht hj
    unfold tabOk at h1
    rw [Bool.and_eq_true] at h1
    have h2 := (mOk_zone h1.1).1
    have h3 := (mOk_zone hok).1
    exact absurd (by omega) (hn j _ (zsP_get hj hgl))
theorem tabs_len_le (l : Nat → List Mr) {n i : Nat} (hn : n < 4) (hi : i ≤ (l n).length) : (tabs l n).length + i ≤ (tabs l 4).length := by
  obtain ⟨t, ht⟩ := tabs_mono l (n + 1) (4 - (n + 1))
  rw [show n + 1 + (4 - (n + 1)) = 4 by omega] at ht
  rw [ht, List.length_append, tabs_succ_len]; omega
theorem verOk_bad_tab {l : Nat → List Mr} {k : Nat} (hk : k < (tabs l 4).length) (h : tabOk (tabs l 4) k = false) : verOk l = false := by
  unfold verOk; rw [tabsOk_false h _ hk]; rfl
theorem verOk_bad_sep {l : Nat → List Mr} {n i : Nat} (hn0 : 0 < n) (hn : n < 4) (hi : i < (l n).length) (h : sepAt (l n) i = false) : verOk l = false := by
  have hs := sepOk_false h _ hi
  unfold verOk
  have : n = 1 ∨ n = 2 ∨ n = 3 := by omega
  rcases this with rfl | rfl | rfl <;> rw [hs] <;> simp
theorem verOk_good {l : Nat → List Mr} (h : tabsOk (tabs l 4) (tabs l 4).length = true) (hs : ∀ m, 0 < m → m < 4 → sepOk (l m) (l m).length = true) : verOk l = true := by
  unfold verOk; rw [h, hs 1 (by omega) (by omega), hs 2 (by omega) (by omega), hs 3 (by omega) (by omega)]; rfl
attribute [local go_sem] Oper.semAt_some
set_option maxHeartbeats 6400000 in
theorem rcheck_any (V : Vn) (vb : Nat) (w : World) (hvb : w.heap[vb]? = some (.cells V.cells 61 (0, 0))) (h : IsVn w V)
    (hrl : ∀ p ∈ tabs V.l 4, p.2.1.refs.length ≤ 1000000 ∧ p.2.1.a.u.size ≤ maxLen ∧ p.2.1.b.u.size ≤ maxLen) (hlen : (tabs V.l 4).length ≤ 1000000) :
    Calls Try.prog 56 #[.pointer (some ⟨vb, 0, none⟩)] w fun e w' => e = .returned (.bool (verOk V.l)) ∧ Below w.heap.size w w' := by
  have H := Lib.hid h
  have Hvb := Lib.hid hvb
  have Hrl := Lib.hid hrl
  have Hlen := Lib.hid hlen
  clear h hvb hrl hlen
  go_enter Try.func56, Try.ntmps56
  go_wp2
  go_loopw [3, 4] (fun zv nv wr => ∃ n : Nat, n ≤ 4 ∧ nv = .int .i64 n ∧ ∃ xa xc, zv = .slice xa (tabs V.l n).length xc ∧ OwnZ wr w.heap.size (.slice xa (tabs V.l n).length xc) (zsP (tabs V.l 4) (tabs V.l n).length) ∧ Below w.heap.size w wr ∧ tabsOk (tabs V.l 4) (tabs V.l n).length = true ∧ ∀ m, 0 < m → m < n → sepOk (V.l m) (V.l m).length = true) (fun _ nv _ => 4 - (intOf nv).toNat)
  case atStart => exact ⟨0, Nat.zero_le _, rfl, none, 0, rfl, World.ownsRow_nil _ _ _ _, Below.refl _ _, rfl, fun m _ hm => absurd hm (Nat.not_lt_zero _)⟩
  case round =>
    obtain ⟨wo, rfl⟩ : ∃ wo : World, wo = wr := ⟨_, rfl⟩
    obtain ⟨n, hn, rfl, xa, xc, rfl, hown, hb, htab, hsep⟩ := hrel
    have Hown := Lib.hid hown
    have Hb := Lib.hid hb
    have Htab := Lib.hid htab
    have Hsep := Lib.hid hsep
    clear hown hb htab hsep
    by_cases hn4 : n < 4
    · have hni : (n : Int) < 4 := by omega
      obtain ⟨⟨a, c, hv, hc1, hm1, hx1⟩, hrr⟩ := H.out n hn4
      have cv := (cell_of_blk Hvb.out n).trans ((vn_cell V hn4).trans (by rw [hv]))
      have Hcv := Lib.hid cv
      have Hx1 := Lib.hid hx1
      have Hrr := Lib.hid hrr
      obtain ⟨m, hm⟩ : ∃ m, m = (V.l n).length := ⟨_, rfl⟩
      rw [← hm] at Hcv hc1
      replace hm1 : c ≤ 9223372036854775807 := by unfold maxLen at hm1; omega
      have Hm := Lib.hid hm
      have Hg := Lib.hid (fun (i : Nat) (hi : i ≤ m) => tabs_len_le V.l hn4 (i := i) (by rw [← hm]; exact hi))
      have Hgs := Lib.hid (tabs_succ_len V.l n)
      generalize hG : (tabs V.l n).length = G at *
      have HG := Lib.hid hG
      clear hv hx1 hrr hm hG cv
      go_wp2
      go_loopw [3, 5] (fun zv iv wr => ∃ i : Nat, i ≤ m ∧ iv = .int .i64 i ∧ ∃ xa xc, zv = .slice xa (G + i) xc ∧ OwnZ wr w.heap.size (.slice xa (G + i) xc) (zsP (tabs V.l 4) (G + i)) ∧ Below w.heap.size w wr ∧ tabsOk (tabs V.l 4) (G + i) = true ∧ (0 < n → sepOk (V.l n) i = true)) (fun _ iv _ => m - (intOf iv).toNat)
      case atStart => exact ⟨0, Nat.zero_le _, rfl, xa, xc, rfl, Hown.out, Hb.out, Htab.out, fun _ => rfl⟩
      case round =>
        obtain ⟨wq, rfl⟩ : ∃ wq : World, wq = wr := ⟨_, rfl⟩
        obtain ⟨i, hi, rfl, ya, yc, rfl, hown2, hb2, htab2, hsep2⟩ := hrel
        have Hown2 := Lib.hid hown2
        have Hb2 := Lib.hid hb2
        have Htab2 := Lib.hid htab2
        have Hsep2 := Lib.hid hsep2
        have hqs := hb2.size
        have cv := (hb2.cell (block_lt_of_cell Hcv.out)).trans Hcv.out
        clear hown2 hb2 htab2 hsep2 Hown Hb Htab
        by_cases him : i < m
        · obtain ⟨b, off, rfl, hcell⟩ := Hx1.out (by rw [← List.length_pos_iff]; have := Hm.out; omega)
          obtain ⟨r, hr⟩ : ∃ r, (V.l n)[i]? = some r := ⟨_, List.getElem?_eq_getElem (by rw [← Hm.out]; exact him)⟩
          have hrow := fun (W : World) (hW : Below w.heap.size w W) => IsMr.row (w := W) (fun i x hi j y hj => (hW.cell (block_lt_of_cell (hcell i x hi j y hj))).trans (hcell i x hi j y hj)) hr
          have Hrr1 := Lib.hid (Hrr.out r (List.mem_of_getElem? hr))
          have Htat := Lib.hid (tabs_at V.l hn4 hr)
          rw [HG.out] at Htat
          have hlim := Hrl.out _ (List.mem_of_getElem? Htat.out)
          have hgl := Hg.out i hi
          have hgl2 := Hlen.out
          have hcells := Lib.hid hcell
          obtain ⟨d0, d1, d2, d3, d4, d5, d6, d7, d8⟩ := hrow wq Hb2.out
          obtain ⟨ra, rc, hrv, -, -, -⟩ := id Hrr1.out
          have Hr := Lib.hid hr
          clear hcell hrow hr
          obtain ⟨⟨z, ln, ⟨au, asq, ak⟩, ⟨bu, bsq, bk⟩, refs⟩, vr⟩ := r
          dsimp only at d0 d1 d2 d3 d4 d5 d6 d7 d8 hrv hlim
          obtain ⟨rn, hrn⟩ : ∃ rn, rn = refs.length := ⟨_, rfl⟩
          rw [← hrn] at hrv
          subst hrv
          have hr15 := Lib.hid (fun W hW => right15_any z ln ⟨au, asq, ak⟩ ⟨bu, bsq, bk⟩ (.slice ra rn rc) refs W hW hlim.1 hlim.2.1 hlim.2.2)
          unfold metaV at hr15
          have hM := Lib.hid (blk_of_alloc wq (.cells #[.int .i64 z, .int .i64 ln, .string au, .int .i64 asq, .int .i64 ak, .string bu, .int .i64 bsq, .int .i64 bk, .slice ra rn rc] 35))
          have HbW := Lib.hid (Hb2.out.alloc hqs (.cells #[.int .i64 z, .int .i64 ln, .string au, .int .i64 asq, .int .i64 ak, .string bu, .int .i64 bsq, .int .i64 bk, .slice ra rn rc] 35))
          have HownW := Lib.hid (own_below Hown2.out ((Below.refl _ _).alloc (Nat.le_refl _) (.cells #[.int .i64 z, .int .i64 ln, .string au, .int .i64 asq, .int .i64 ak, .string bu, .int .i64 bsq, .int .i64 bk, .slice ra rn rc] 35)))
          clear Hown2 Hb2 hlim
          have hr16 := Lib.hid (hr15.out _ (Hrr1.out.below HbW.out))
          have Hrn := Lib.hid hrn
          clear hr15 Hrr1 hrn
          dsimp only at hr16
          go_wp2_with fail
          refine hr16.out.mono ?_
          rintro e w2 ⟨rfl, hb3⟩
          clear hr16 d0 d1 d2 d3 d4 d5 d6 d7 d8 cv
          have hM2 := Lib.hid (blk_bels hb3 hM.out)
          have Hb3 := Lib.hid (HbW.out.trans (hb3.mono (HbW.out.size)))
          have Hown3 := Lib.hid (own_below HownW.out hb3)
          have hlt := (List.getElem?_eq_some_iff.1 Htat.out).1
          clear Hown3 hM
          have Hown3 := Lib.hid (own_below HownW.out hb3)
          have Hbm := fun q => verOk_bad_tab (l := V.l) hlt q
          have Hbm := Lib.hid Hbm
          have Htm := Lib.hid (show tabsOk (tabs V.l 4) (G + i + 1) = (tabsOk (tabs V.l 4) (G + i) && tabOk (tabs V.l 4) (G + i)) from rfl)
          clear HbW HownW hb3 Hgs Hg
          generalize hgE : G + i = g at *
          have HgE := Lib.hid hgE
          clear hgE
          cases hok : metaOk z ln ⟨au, asq, ak⟩ ⟨bu, bsq, bk⟩ refs with
          | false =>
            have hbad := Hbm.out (by unfold tabOk; rw [List.getD_eq_getElem?_getD, Htat.out]; show (metaOk z ln ⟨au, asq, ak⟩ ⟨bu, bsq, bk⟩ refs && _) = false; rw [hok]; rfl)
            have Hbad := Lib.hid hbad
            clear hok hbad
            go_wp2
            go_ret
            exact ⟨by rw [Hbad.out]; rfl, Hb3.out⟩
          | true =>
            have Hok := Lib.hid hok
            clear hok
            have hsl := isSl_own dzC_len Hown3.out
            obtain ⟨-, hzc1, hzc2, hzx⟩ := hsl.at
            have Hzx := Lib.hid hzx
            clear hsl hzx
            go_wp2_with fail
            go_loopw [7] (fun kv wr => ∃ k nd : Nat, k ≤ g ∧ kv = .int .i64 k ∧ wr = w2.drewN nd ∧ ∀ (j : Nat) (y : Int), j < k → (zsP (tabs V.l 4) g)[j]? = some y → y ≠ z) (fun kv _ => g - (intOf kv).toNat)
            case atStart => exact ⟨0, 0, Nat.zero_le _, rfl, rfl, fun j y hj => absurd hj (Nat.not_lt_zero _)⟩
            case round =>
              obtain ⟨k, nd, hk, rfl, rfl, hne⟩ := hrel
              have Hne := Lib.hid hne
              clear hne
              by_cases hkg : k < g
              · obtain ⟨zb, zo, rfl, hzcell⟩ := Hzx.out (by omega)
                obtain ⟨y, hy⟩ : ∃ y, (zsP (tabs V.l 4) g)[k]? = some y := ⟨_, zsP_get hkg hgl⟩
                have y0 : w2.cell? ⟨zb, zo + k, none⟩ = some (.int .i64 y) := by have := hzcell k y hy 0 _ rfl; rwa [Nat.mul_one, Nat.add_zero] at this
                have m0 : w2.cell? ⟨wq.heap.size, 0, none⟩ = some (.int .i64 z) := (cell_of_blk hM2.out 0).trans rfl
                have Hy := Lib.hid hy
                clear hzcell hy
                by_cases hyz : y = z
                · have hyz2 : (y == z) = true := by simpa using hyz
                  have hbad := Hbm.out (seen_yes Htat.out Hy.out hgl hyz)
                  have Hbad := Lib.hid hbad
                  clear hbad hyz
                  go_wp2_with fail
                  go_quiet (fail)
                  go_wp2
                  go_ret
                  exact ⟨by rw [Hbad.out]; rfl, below_drewN (below_drewN Hb3.out _) _⟩
                · have hyz2 : (y == z) = false := by simpa using hyz
                  have HN : Hid (∀ (j : Nat) (y : Int), j < k + 1 → (zsP (tabs V.l 4) g)[j]? = some y → y ≠ z) := Lib.hid (fun j y' hj hy' => by
                    by_cases e : j = k
                    · subst e; rw [Hy.out] at hy'; cases hy'; exact hyz
                    · exact Hne.out j y' (by omega) hy')
                  clear hyz
                  go_wp2_with fail
                  go_quiet (fail)
                  go_wp2
                  go_roundw
                  case rel => exact ⟨k + 1, _, by omega, by go_num, rfl, HN.out⟩
                  case measure => simp [intOf]; omega
              · obtain rfl : k = g := by omega
                have hT1 : tabOk (tabs V.l 4) k = true := seen_no Htat.out Hok.out Htab2.out (fun j y hy => Hne.out j y (by have := (List.getElem?_eq_some_iff.1 hy).1; rwa [zsP_len hgl] at this) hy)
                have hT : tabsOk (tabs V.l 4) (G + (i + 1)) = true := by rw [show G + (i + 1) = k + 1 by have := HgE.out; omega, Htm.out, Htab2.out, hT1]; rfl
                have HT := Lib.hid hT
                have hb30 := below_drewN (Below.refl w2.heap.size w2) nd
                have hown30 := own_below Hown3.out hb30
                have Hb30 := Lib.hid (below_drewN Hb3.out nd)
                have hM30 : (w2.drewN nd).heap[wq.heap.size]? = _ := hM2.out
                obtain ⟨za, zc, w3, hrun, hown4, hg4⟩ := push_z (w2.drewN nd) w.heap.size ya k yc (zsP (tabs V.l 4) k) z hown30 (by omega) Hb30.out.size
                have Hb4 := Lib.hid (push_bel Hb30.out hown30 hg4 (Nat.le_refl _) Hb30.out.size)
                have hM4 := push_other hown30 hg4 hM30 (by decide)
                rw [← zsP_succ Htat.out] at hown4
                have Hown4 := Lib.hid hown4
                have m0 : (w2.drewN nd).cell? ⟨wq.heap.size, 0, none⟩ = some (.int .i64 z) := (cell_of_blk hM2.out 0).trans rfl
                have f2 := cell_regrown ((cell_of_blk hM4 2).trans (show _ = some (.string au) from rfl))
                have fv := cell_regrown ((Hb4.out.cell (block_lt_of_cell Hcv.out)).trans Hcv.out)
                have hrc := Hcv.out
                clear hT hT1 hb30 hown30 hM30 hg4 hM4 hown4 hrc hM2 Hb3 Hb30 Hown3 Hzx
                by_cases hn0 : 0 < n
                · by_cases hi0 : 0 < i
                  · obtain ⟨t, hit⟩ : ∃ t, i = t + 1 := ⟨i - 1, by omega⟩
                    obtain ⟨r0, hr0⟩ : ∃ r, (V.l n)[t]? = some r := ⟨_, List.getElem?_eq_getElem (by rw [← Hm.out]; omega)⟩
                    have b5 := hcells.out t r0 hr0 5 _ rfl
                    have f5 := cell_regrown ((Hb4.out.cell (block_lt_of_cell b5)).trans b5)
                    have hlim0 := Hrl.out _ (List.mem_of_getElem? (tabs_at V.l hn4 hr0))
                    have hlim1 := Hrl.out _ (List.mem_of_getElem? Htat.out)
                    have hsa : sepAt (V.l n) i = decide (cmpB r0.1.b.u au < 0) := by
                      unfold sepAt
                      rw [List.getD_eq_getElem?_getD, List.getD_eq_getElem?_getD, show i - 1 = t by omega, hr0, Hr.out, decide_eq_false (show ¬ i = 0 by omega)]; rfl
                    have Hss := Lib.hid (show sepOk (V.l n) (i + 1) = (sepOk (V.l n) i && sepAt (V.l n) i) from rfl)
                    have Hsb := Lib.hid (fun q => verOk_bad_sep (l := V.l) (i := i) hn0 hn4 (by rw [← Hm.out]; exact him) q)
                    obtain ⟨s0, hs0⟩ : ∃ s, s = r0.1.b.u := ⟨_, rfl⟩
                    rw [← hs0] at f5 hsa
                    have hor : Hid (∀ (d : Nat) (os : Array Obj), Calls Try.prog 10 #[.string s0, .string au] (grow (redrawn w3 d) os) fun e w'' => e = .returned (.int .i64 (cmpB s0 au)) ∧ ∃ p : Regrown, w'' = grow (redrawn w3 p.d) p.os) := Lib.hid fun d os => Calls.regrown_of ((Order_any s0 au (by rw [hs0]; exact hlim0.2.2) hlim1.2.1 _).mono (fun e w' h => ⟨h.1, by obtain ⟨-, n, rfl⟩ := h; exact below_drewN (Below.refl _ _) n⟩))
                    have hwr : IntKind.i64.wrap ((i : Int) - 1) = (t : Int) := (IntWalk.i64_in _ (by omega)).trans (by omega)
                    have htm : t < m := by omega
                    have Hsa := Lib.hid hsa
                    clear b5 hlim0 hlim1 hr0 hs0 hsa
                    by_cases hlt2 : cmpB s0 au < 0
                    · have Hsa2 := Lib.hid (Hsa.out.trans (decide_eq_true hlt2))
                      generalize hcv2 : cmpB s0 au = cv2 at *
                      have hge : ¬ 0 ≤ cv2 := by omega
                      have Hit := Lib.hid hit
                      clear hcv2 hit
                      go_wp2_with (at_builtin; first | (refine wpList_val rfl _ _ (run_append_op (.tmp 48) (.tmp 51) 41 41 rfl rfl rfl hrun) ?_) | (refine wpList_val rfl _ _ (run_append_op (.tmp 48) (.tmp 51) 41 41 rfl (by simp) (by simp) hrun) ?_))
                      refine wp_region_quiet_below (by kernel_rfl) (by kernel_rfl) ?_
                      repeat (go_big_quiet_step (first | with_reducible exact hor.out _ _))
                      refine wpQuiet_nil ?_
                      intro _ hw'
                      obtain ⟨⟨dq, osq⟩, hw''⟩ := hw'
                      subst hw''
                      have hbq := Lib.hid (Hb4.out.trans ((below_regrown w3 dq osq).mono Hb4.out.size))
                      have hoq := Lib.hid (own_below Hown4.out (below_regrown w3 dq osq))
                      go_wp2
                      go_roundw
                      case rel => exact ⟨i + 1, by omega, by go_num, za, zc, congrArg (fun q => Value.slice za q zc) (by have := HgE.out; omega), by rw [show G + (i + 1) = k + 1 by have := HgE.out; omega]; exact hoq.out, hbq.out, HT.out, fun q => by rw [Hss.out, Hsep2.out q, Hsa2.out]; rfl⟩
                      case measure => simp [intOf]; omega
                    · have Hsa2 := Lib.hid (Hsa.out.trans (decide_eq_false hlt2))
                      generalize hcv2 : cmpB s0 au = cv2 at *
                      have hge : 0 ≤ cv2 := by omega
                      have Hit := Lib.hid hit
                      have Hbad := Lib.hid (Hsb.out Hsa2.out)
                      clear hcv2 hit
                      go_wp2_with (at_builtin; first | (refine wpList_val rfl _ _ (run_append_op (.tmp 48) (.tmp 51) 41 41 rfl rfl rfl hrun) ?_) | (refine wpList_val rfl _ _ (run_append_op (.tmp 48) (.tmp 51) 41 41 rfl (by simp) (by simp) hrun) ?_))
                      refine wp_region_quiet_below (by kernel_rfl) (by kernel_rfl) ?_
                      repeat (go_big_quiet_step (first | with_reducible exact hor.out _ _))
                      refine wpQuiet_nil ?_
                      intro _ hw'
                      obtain ⟨⟨dq, osq⟩, hw''⟩ := hw'
                      subst hw''
                      have hbq := Lib.hid (Hb4.out.trans ((below_regrown w3 dq osq).mono Hb4.out.size))
                      have hoq := Lib.hid (own_below Hown4.out (below_regrown w3 dq osq))
                      go_wp2
                      go_ret
                      exact ⟨by rw [Hbad.out]; rfl, hbq.out⟩
                  · have HS0 : Hid (0 < n → sepOk (V.l n) (i + 1) = true) := Lib.hid (fun _ => by rw [show i = 0 by omega]; simp [sepOk, sepAt])
                    go_wp2_with (at_builtin; first | (refine wpList_val rfl _ _ (run_append_op (.tmp 48) (.tmp 51) 41 41 rfl rfl rfl hrun) ?_) | (refine wpList_val rfl _ _ (run_append_op (.tmp 48) (.tmp 51) 41 41 rfl (by simp) (by simp) hrun) ?_))
                    refine wp_region_quiet_below (by kernel_rfl) (by kernel_rfl) ?_
                    repeat (go_big_quiet_step (first | fail))
                    refine wpQuiet_nil ?_
                    intro _ hw'
                    obtain ⟨⟨dq, osq⟩, hw''⟩ := hw'
                    subst hw''
                    have hbq := Lib.hid (Hb4.out.trans ((below_regrown w3 dq osq).mono Hb4.out.size))
                    have hoq := Lib.hid (own_below Hown4.out (below_regrown w3 dq osq))
                    go_wp2
                    go_roundw
                    case rel => exact ⟨i + 1, by omega, by go_num, za, zc, congrArg (fun q => Value.slice za q zc) (by have := HgE.out; omega), by rw [show G + (i + 1) = k + 1 by have := HgE.out; omega]; exact hoq.out, hbq.out, HT.out, HS0.out⟩
                    case measure => simp [intOf]; omega
                · have HS0 : Hid (0 < n → sepOk (V.l n) (i + 1) = true) := Lib.hid (fun q => absurd q hn0)
                  go_wp2_with (at_builtin; first | (refine wpList_val rfl _ _ (run_append_op (.tmp 48) (.tmp 51) 41 41 rfl rfl rfl hrun) ?_) | (refine wpList_val rfl _ _ (run_append_op (.tmp 48) (.tmp 51) 41 41 rfl (by simp) (by simp) hrun) ?_))
                  refine wp_region_quiet_below (by kernel_rfl) (by kernel_rfl) ?_
                  repeat (go_big_quiet_step (first | fail))
                  refine wpQuiet_nil ?_
                  intro _ hw'
                  obtain ⟨⟨dq, osq⟩, hw''⟩ := hw'
                  subst hw''
                  have hbq := Lib.hid (Hb4.out.trans ((below_regrown w3 dq osq).mono Hb4.out.size))
                  have hoq := Lib.hid (own_below Hown4.out (below_regrown w3 dq osq))
                  go_wp2
                  go_roundw
                  case rel => exact ⟨i + 1, by omega, by go_num, za, zc, congrArg (fun q => Value.slice za q zc) (by have := HgE.out; omega), by rw [show G + (i + 1) = k + 1 by have := HgE.out; omega]; exact hoq.out, hbq.out, HT.out, HS0.out⟩
                  case measure => simp [intOf]; omega
        · obtain rfl : i = m := by omega
          have HsepN : Hid (∀ m, 0 < m → m < n + 1 → sepOk (V.l m) (V.l m).length = true) := Lib.hid (fun m h0 hm => by
            by_cases e : m = n
            · subst e; rw [← Hm.out]; exact Hsep2.out h0
            · exact Hsep.out m h0 (by omega))
          have Hlen1 : Hid ((tabs V.l (n + 1)).length = G + i) := Lib.hid (by rw [Hgs.out, ← Hm.out])
          clear cv
          have cv := (Hb2.out.cell (block_lt_of_cell Hcv.out)).trans Hcv.out
          go_wp2
          go_roundw
          case rel => exact ⟨n + 1, by omega, by go_num, ya, yc, by rw [Hlen1.out], by rw [Hlen1.out]; exact Hown2.out, Hb2.out, by rw [Hlen1.out]; exact Htab2.out, HsepN.out⟩
          case measure => simp [intOf]; omega
    · obtain rfl : n = 4 := by omega
      have hgood : verOk V.l = true := verOk_good Htab.out (fun m h0 hm => Hsep.out m h0 hm)
      have Hgood := Lib.hid hgood
      clear hgood
      go_wp2
      go_ret
      exact ⟨by rw [Hgood.out]; rfl, Hb.out⟩
end Go.Proofs.Ytjefpogeknbelaa.Tithe
