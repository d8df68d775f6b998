/- The law MergeSorted, walked. -/
import Derived.Test.YtcgkpbhoiaeolaaMergeIs
namespace Go.Proofs.Ytcgkpbhoiaeolaa.Tithe
open Go.RowKit Go.Sort Go.Shelf
set_option linter.unusedVariables false
def valStep (K : Int) (s : Int × Bool) (x : It) : Int × Bool := if x.1 == K && !s.2 then (x.2, true) else s
def scanR (K : Int) (s : Int × Bool) (r : List It) : Int × Bool := r.foldl (valStep K) s
def scanL (K : Int) (ls : List (List It)) : Int × Bool := ls.foldl (scanR K) (0, false)
theorem scanR_take {r : List It} {k : Nat} (K : Int) (s : Int × Bool) (h : k < r.length) : scanR K s (r.take (k + 1)) = valStep K (scanR K s (r.take k)) (r.getD k (0, 0)) := by
  unfold scanR
  rw [List.take_succ_eq_append_getElem h, List.foldl_append, List.getD_eq_getElem?_getD, List.getElem?_eq_getElem h]; rfl
theorem scanL_take {ls : List (List It)} {k : Nat} (K : Int) (h : k < ls.length) : scanL K (ls.take (k + 1)) = scanR K (scanL K (ls.take k)) (ls.getD k []) := by
  unfold scanL
  rw [List.take_succ_eq_append_getElem h, List.foldl_append, List.getD_eq_getElem?_getD, List.getElem?_eq_getElem h]; rfl
theorem scanR_done (K : Int) (v : Int) (r : List It) : scanR K (v, true) r = (v, true) := by
  induction r with
  | nil => rfl
  | cons x r ih => show scanR K (valStep K (v, true) x) r = _; rw [show valStep K (v, true) x = (v, true) from by simp [valStep]]; exact ih
theorem scanR_none (K : Int) (s : Int × Bool) (r : List It) (h : ∀ z ∈ r, z.1 ≠ K) : scanR K s r = s := by
  induction r with
  | nil => rfl
  | cons x r ih =>
    have hx := h x (by simp)
    show scanR K (valStep K s x) r = _
    rw [show valStep K s x = s from by simp [valStep, hx]]
    exact ih fun z hz => h z (by simp [hz])
theorem scanR_hit (y : It) (v : Int) (r : List It) (ha : Asc r) (h : y ∈ r) : scanR y.1 (v, false) r = (y.2, true) := by
  unfold Asc at ha
  induction r with
  | nil => simp at h
  | cons x r ih =>
    rw [List.pairwise_cons] at ha
    show scanR y.1 (valStep y.1 (v, false) x) r = _
    rcases List.mem_cons.1 h with rfl | h
    · rw [show valStep y.1 (v, false) y = (y.2, true) from by simp [valStep]]
      exact scanR_done _ _ _
    · have := ha.1 y h
      rw [show valStep y.1 (v, false) x = (v, false) from by simp [valStep]; omega]
      exact ih ha.2 h
theorem scanL_gen (y : It) (ls : List (List It)) (ha : ∀ r ∈ ls, Asc r) (h : FirstIn ls y) : ls.foldl (scanR y.1) (0, false) = (y.2, true) := by
  induction ls with
  | nil => exact h.elim
  | cons r ls ih =>
    rw [List.foldl_cons]
    rcases h with h | ⟨h1, h2⟩
    · rw [scanR_hit y 0 r (ha r (by simp)) h]
      have : ∀ (l : List (List It)), l.foldl (scanR y.1) (y.2, true) = (y.2, true) := by
        intro l
        induction l with
        | nil => rfl
        | cons a l ih => rw [List.foldl_cons, scanR_done]; exact ih
      exact this ls
    · rw [scanR_none _ _ r h1]
      exact ih (fun r hr => ha r (by simp [hr])) h2
theorem hasK_one {ls : List (List It)} (ha : ∀ r ∈ ls, Asc r) {r : List It} (hr : r ∈ ls) {x : It} (hx : x ∈ r) : hasK (oneL ls) x.1 = true := by
  obtain ⟨q, h1, h2⟩ := firstIn_of hr hx
  exact (hasK_iff _ _).2 ⟨q, (oneL_mem ls ha q).2 h1, h2⟩
theorem getD_mem {α : Type} {l : List α} {d : α} {k : Nat} (h : k < l.length) : l.getD k d ∈ l := by
  rw [List.getD_eq_getElem?_getD, List.getElem?_eq_getElem h]; exact List.getElem_mem _
theorem sorted_skip (a : Option Addr) (c : Nat) (ls : List (List It)) (w : World) (h : IsIts w (.slice a ls.length c) ls) (hs : smallI ls = false ∨ (smallI ls = true ∧ runsB ls = false)) :
    Calls Try.prog 6 #[.slice a ls.length c] w fun e w' => e = .returned (.bool true) ∧ Below w.heap.size w w' := by
  have H := Lib.hid h
  rcases hs with hs | ⟨hs, hr⟩
  · have Hs := Lib.hid hs
    clear h hs
    go_enter Try.func6, Try.ntmps6
    go_wp2_with fail
    refine (small_any _ ls w H.out).mono ?_
    rintro e w' ⟨rfl, rfl⟩
    rw [Hs.out]
    go_wp2_with fail
    refine (awake_any w).mono ?_
    rintro e w' ⟨rfl, hb⟩
    go_wp2
    go_ret
    exact ⟨rfl, hb⟩
  · have Hs := Lib.hid hs
    have hruns := runs_any _ ls w h
    rw [hr] at hruns
    have Hruns := Lib.hid hruns
    clear h hs hr hruns
    go_enter Try.func6, Try.ntmps6
    go_wp2_with fail
    refine (small_any _ ls w H.out).mono ?_
    rintro e w' ⟨rfl, rfl⟩
    rw [Hs.out]
    go_wp2_with fail
    refine Hruns.out.mono ?_
    rintro e w' ⟨rfl, nq, rfl⟩
    go_wp2_with fail
    refine (awake_any _).mono ?_
    rintro e w' ⟨rfl, hb⟩
    go_wp2
    go_ret
    exact ⟨rfl, (below_drewN (Below.refl _ _) nq).trans hb⟩
set_option maxRecDepth 100000 in
set_option maxHeartbeats 1600000 in
theorem sorted_yes (a : Option Addr) (c : Nat) (ls : List (List It)) (w : World) (h : IsIts w (.slice a ls.length c) ls) (hs : smallI ls = true) (hr : runsB ls = true) :
    Calls Try.prog 6 #[.slice a ls.length c] w fun e w' => e = .returned (.bool true) ∧ Below w.heap.size w w' := by
  have H := Lib.hid h
  obtain ⟨-, hc, hm, hx⟩ := h.at
  obtain ⟨h10, h40⟩ := smallI_iff hs
  have Hasc := Lib.hid (okRuns_asc (okRuns_of hr (fun i hi => by have := h40 i hi; omega)))
  have Hs := Lib.hid hs
  have Hr := Lib.hid hr
  have H40 := Lib.hid h40
  have Hx := Lib.hid hx
  have hruns := runs_any _ ls w h
  rw [hr] at hruns
  have Hruns := Lib.hid hruns
  clear h hs hr h40 hx hruns
  go_enter Try.func6, Try.ntmps6
  go_wp2_with fail
  refine (small_any _ ls w H.out).mono ?_
  rintro e w' ⟨rfl, rfl⟩
  rw [Hs.out]
  go_wp2_with fail
  refine Hruns.out.mono ?_
  rintro e w' ⟨rfl, nq, rfl⟩
  have Hb1 : Hid (Below w.heap.size w (w.drewN nq)) := below_drewN (Below.refl _ _) nq
  go_wp2_with fail
  refine (all_any _ ls _ (H.out.below Hb1.out) (by omega) (fun i hi => by have := H40.out i hi; omega)).mono ?_
  rintro e w2 ⟨iv, rfl, hits, hnil, hb2⟩
  have Hits := Lib.hid hits
  have Hnil := Lib.hid hnil
  have hb2' : Below w.heap.size w w2 := Hb1.out.trans hb2
  have Hb2 := Lib.hid hb2'
  have hw2 := hb2'.size
  obtain ⟨ia, ic, rfl, -, -, -⟩ := id hits
  clear hits hnil hb2 hb2'
  go_wp2_with fail
  have hml := one_le ls H40.out
  refine (merge_yes _ ls w2 Hits.out Hnil.out (by omega) Hr.out (fun i hi => by have := H40.out i hi; omega) (by omega)).mono ?_
  rintro e w3 ⟨lv, rfl, hown, hb3⟩
  have hl3 := isIt_own hown
  obtain ⟨la, lc, rfl⟩ := own_slice hown
  have hb3' : Below w.heap.size w w3 := Hb2.out.trans (hb3.mono hw2)
  have Hb3 := Lib.hid hb3'
  have hw3 := hb3'.size
  have hchk := check_any _ (oneL ls) w3 hl3
  rw [chkE_yes (run_of_asc (oneL_asc ls))] at hchk
  have Hchk := Lib.hid hchk
  have Hl3 := Lib.hid hl3
  obtain ⟨-, hlc, hlm, hlx⟩ := hl3.at
  have Hlx := Lib.hid hlx
  have hM1 : (oneL ls).length ≤ 400 := by omega
  have Hasc1 := Lib.hid (run_of_asc (oneL_asc ls))
  have Hkey : Hid (∀ k, k < ls.length → ∀ t, t < (ls.getD k []).length → hasK (oneL ls) ((ls.getD k []).getD t (0, 0)).1 = true) := fun k hk t ht => hasK_one Hasc.out (getD_mem hk) (getD_mem ht)
  have Hscan : Hid (∀ k, k < (oneL ls).length → scanL ((oneL ls).getD k (0, 0)).1 ls = (((oneL ls).getD k (0, 0)).2, true)) := fun k hk => scanL_gen _ ls Hasc.out ((oneL_mem ls Hasc.out _).1 (getD_mem hk))
  clear hown hb3 hb3' hchk hl3 hlx
  generalize oneL ls = M at *
  clear hml
  obtain ⟨mN, hmN⟩ : ∃ mN, mN = M.length := ⟨_, rfl⟩
  rw [← hmN] at hlc Hlx hM1 Hl3 Hchk Hscan ⊢
  have HmN := Lib.hid hmN
  clear hmN
  go_wp2_with fail
  refine Hchk.out.mono ?_
  rintro e w' ⟨rfl, n2, rfl⟩
  have Hb4 : Hid (Below w3.heap.size w3 (w3.drewN n2)) := below_drewN (Below.refl _ _) n2
  go_wp2_with fail
  go_loopw [43] (fun i wr => ∃ k : Nat, k ≤ ls.length ∧ i = .int .i64 k ∧ Below w3.heap.size w3 wr) (fun i _ => ls.length - (intOf i).toNat)
  case atStart => exact ⟨0, Nat.zero_le _, rfl, Hb4.out⟩
  case round =>
    obtain ⟨k, hk, rfl, hb⟩ := hrel
    by_cases hlt : k < ls.length
    · obtain ⟨b, off, rfl, hcell⟩ := Hx.out (by omega)
      obtain ⟨ka, kn, kc, c1, hrow⟩ := hcell k hlt
      have hwb : Below w.heap.size w wr := Hb3.out.trans (hb.mono hw3)
      have d1 := (hwb.cell (block_lt_of_cell c1)).trans c1
      obtain ⟨hkn, hkc, hkm, hrx⟩ := hrow.at
      have hk40 := H40.out k hlt
      have hkey := Hkey.out k hlt
      generalize ls.getD k [] = r at *
      have Hrx := Lib.hid hrx
      have Hkn := Lib.hid hkn
      have Hkey2 := Lib.hid hkey
      have hkn40 : kn ≤ 40 := by omega
      clear hcell c1 hrow hrx hkn hkey hwb hk40
      obtain ⟨wo, rfl⟩ : ∃ wo : World, wo = wr := ⟨_, rfl⟩
      go_wp2
      go_loopw [49] (fun j wr => ∃ t : Nat, t ≤ kn ∧ j = .int .i64 t ∧ Below w3.heap.size w3 wr) (fun j _ => kn - (intOf j).toNat)
      case atStart => exact ⟨0, Nat.zero_le _, rfl, hb⟩
      case round =>
        obtain ⟨t, ht, rfl, hb2⟩ := hrel
        by_cases htl : t < kn
        · obtain ⟨b2, off2, rfl, hc2⟩ := Hrx.out (by omega)
          obtain ⟨g1, g2⟩ := hc2 t htl
          have hwb2 : Below w.heap.size w wr := Hb3.out.trans (hb2.mono hw3)
          have e1 := (hwb2.cell (block_lt_of_cell g1)).trans g1
          have e2 := (hwb2.cell (block_lt_of_cell g2)).trans g2
          have hkk := Hkey2.out t (by have := Hkn.out; omega)
          generalize r.getD t (0, 0) = q at *
          obtain ⟨x, y⟩ := q
          replace e1 : wr.cell? ⟨b2, off2 + t * 2, none⟩ = some (.int .i64 x) := e1
          replace e2 : wr.cell? ⟨b2, off2 + t * 2 + 1, none⟩ = some (.int .i64 y) := e2
          replace hkk : hasK M x = true := hkk
          have hsz := hb2.size
          have hfind : ∀ W, Below w3.heap.size w3 W → Calls Try.prog 18 #[.slice la mN lc, .int .i64 x] W fun e w' => e = .returned (.tuple #[.int .i64 (ceilL M x : Nat), .bool true]) ∧ Below W.heap.size W w' := by
            intro W hW
            have := find_any _ M x W (Hl3.out.below hW) (by have := HmN.out; omega) Hasc1.out
            rw [hkk] at this
            exact this
          have Hfind := Lib.hid hfind
          have Hb2' := Lib.hid hb2
          have hba : ∀ o : Obj, Below w3.heap.size w3 (wr.alloc o) := fun o => hb2.alloc hsz o
          have Hba := Lib.hid hba
          clear hc2 g1 g2 hwb2 hkk hfind hba hb2 hb
          go_wp2_with fail
          refine (Hfind.out _ (Hba.out _)).mono ?_
          rintro e w5 ⟨rfl, hb5⟩
          have hb6 : Below w3.heap.size w3 w5 := (Hba.out _).trans (hb5.mono (Hba.out _).size)
          clear hb5
          go_wp2
          go_roundw
          case rel => exact ⟨t + 1, by omega, by go_num, hb6⟩
          case measure => simp [intOf]; omega
        · obtain rfl : t = kn := by omega
          clear hb
          go_wp2
          go_roundw
          case rel => exact ⟨k + 1, by omega, by go_num, hb2⟩
          case measure => simp [intOf]; omega
    · obtain rfl : k = ls.length := by omega
      go_wp2_with fail
      go_loopw [66] (fun i wr => ∃ k : Nat, k ≤ mN ∧ i = .int .i64 k ∧ Below w3.heap.size w3 wr) (fun i _ => mN - (intOf i).toNat)
      case atStart => exact ⟨0, Nat.zero_le _, rfl, hb⟩
      case round =>
        clear hb
        obtain ⟨k, hk2, rfl, hb⟩ := hrel
        by_cases hkm : k < mN
        · obtain ⟨b, off, rfl, hcell⟩ := Hlx.out (by omega)
          obtain ⟨g1, g2⟩ := hcell k hkm
          have e1 := (hb.cell (block_lt_of_cell g1)).trans g1
          have e2 := (hb.cell (block_lt_of_cell g2)).trans g2
          have hsc := Hscan.out k hkm
          generalize M.getD k (0, 0) = q at *
          obtain ⟨yx, yy⟩ := q
          replace e1 : wr.cell? ⟨b, off + k * 2, none⟩ = some (.int .i64 yx) := e1
          replace e2 : wr.cell? ⟨b, off + k * 2 + 1, none⟩ = some (.int .i64 yy) := e2
          replace hsc : scanL yx ls = (yy, true) := hsc
          have Hsc := Lib.hid hsc
          have hsz := hb.size
          have hbx : Below w3.heap.size w3 (wr.alloc (.cells #[.int .i64 yx, .int .i64 yy] 42)) := hb.alloc hsz _
          have hx0 : (wr.alloc (.cells #[.int .i64 yx, .int .i64 yy] 42)).cell? ⟨wr.heap.size, 0, none⟩ = some (.int .i64 yx) := by rw [World.cell?_alloc_mark]; rfl
          have hx1 : (wr.alloc (.cells #[.int .i64 yx, .int .i64 yy] 42)).cell? ⟨wr.heap.size, 1, none⟩ = some (.int .i64 yy) := by rw [World.cell?_alloc_mark]; rfl
          have Hbx := Lib.hid hbx
          have Hx0 := Lib.hid hx0
          have Hx1 := Lib.hid hx1
          have hs00 : Hid (scanL yx (ls.take 0) = (0, false)) := rfl
          clear hcell g1 g2 hsc hbx hx0 hx1 hb
          obtain ⟨wo, rfl⟩ : ∃ wo : World, wo = wr := ⟨_, rfl⟩
          go_wp2_with fail
          generalize hwx : wo.alloc (.cells #[.int .i64 yx, .int .i64 yy] 42) = wx at *
          clear hwx
          go_loopw [13, 14, 72] (fun v ok i wr => ∃ t : Nat, t ≤ ls.length ∧ i = .int .i64 t ∧ v = .int .i64 (scanL yx (ls.take t)).1 ∧ ok = .bool (scanL yx (ls.take t)).2 ∧ Below wx.heap.size wx wr) (fun _ _ i _ => ls.length - (intOf i).toNat)
          case atStart => exact ⟨0, Nat.zero_le _, rfl, by rw [hs00.out], by rw [hs00.out], Below.refl _ _⟩
          case round =>
            obtain ⟨t, ht, rfl, rfl, rfl, hb⟩ := hrel
            have hbw : Below w.heap.size w wr := Hb3.out.trans ((Hbx.out.trans (hb.mono Hbx.out.size)).mono hw3)
            have f0 := (hb.cell (block_lt_of_cell Hx0.out)).trans Hx0.out
            have f1 := (hb.cell (block_lt_of_cell Hx1.out)).trans Hx1.out
            by_cases htl : t < ls.length
            · obtain ⟨b2, off2, rfl, hcell⟩ := Hx.out (by omega)
              obtain ⟨ka, kn, kc, c1, hrow⟩ := hcell t htl
              have d1 := (hbw.cell (block_lt_of_cell c1)).trans c1
              obtain ⟨hkn, hkc, hkm2, hrx⟩ := hrow.at
              have hk40 := H40.out t htl
              have hnx := scanL_take yx htl
              generalize ls.getD t [] = r at *
              generalize scanL yx (ls.take t) = s0 at *
              obtain ⟨v0, ok0⟩ := s0
              have Hnx := Lib.hid hnx
              have Hrx := Lib.hid hrx
              have Hkn := Lib.hid hkn
              have hkn40 : kn ≤ 40 := by omega
              have Hbo := Lib.hid hb
              have hr0 : Hid (scanR yx (v0, ok0) (r.take 0) = (v0, ok0)) := rfl
              clear hcell c1 hrow hrx hkn hnx hbw hk40 f0 f1 hb
              obtain ⟨wp, rfl⟩ : ∃ wp : World, wp = wr := ⟨_, rfl⟩
              go_wp2
              go_loopw [13, 14, 78] (fun v ok j wr => ∃ u : Nat, u ≤ kn ∧ j = .int .i64 u ∧ v = .int .i64 (scanR yx (v0, ok0) (r.take u)).1 ∧ ok = .bool (scanR yx (v0, ok0) (r.take u)).2 ∧ Below wx.heap.size wx wr) (fun _ _ j _ => kn - (intOf j).toNat)
              case atStart => exact ⟨0, Nat.zero_le _, rfl, by rw [hr0.out], by rw [hr0.out], Hbo.out⟩
              case round =>
                obtain ⟨u, hu, rfl, rfl, rfl, hb⟩ := hrel
                by_cases hul : u < kn
                · obtain ⟨b3, off3, rfl, hc3⟩ := Hrx.out (by omega)
                  obtain ⟨g1, g2⟩ := hc3 u hul
                  have hbw : Below w.heap.size w wr := Hb3.out.trans ((Hbx.out.trans (hb.mono Hbx.out.size)).mono hw3)
                  have p1 := (hbw.cell (block_lt_of_cell g1)).trans g1
                  have p2 := (hbw.cell (block_lt_of_cell g2)).trans g2
                  have f0 := (hb.cell (block_lt_of_cell Hx0.out)).trans Hx0.out
                  have hstep := scanR_take (r := r) yx (v0, ok0) (k := u) (by have := Hkn.out; omega)
                  generalize r.getD u (0, 0) = q at *
                  obtain ⟨zx, zy⟩ := q
                  replace p1 : wr.cell? ⟨b3, off3 + u * 2, none⟩ = some (.int .i64 zx) := p1
                  replace p2 : wr.cell? ⟨b3, off3 + u * 2 + 1, none⟩ = some (.int .i64 zy) := p2
                  generalize scanR yx (v0, ok0) (r.take u) = s1 at *
                  obtain ⟨v1, ok1⟩ := s1
                  have Hstep := Lib.hid hstep
                  have hwxs := hb.size
                  have hblt := block_lt_of_cell f0
                  have hba : ∀ o : Obj, Below wx.heap.size wx (wr.alloc o) := fun o => hb.alloc hwxs o
                  have Hba := Lib.hid hba
                  have F0 : Hid (∀ o : Obj, (wr.alloc o).cell? ⟨wo.heap.size, 0, none⟩ = some (.int .i64 yx)) := fun o => by rw [World.cell?_alloc_lt wr _ _ hblt]; exact f0
                  have F1 := F0.out (.cells #[.int .i64 zx, .int .i64 zy] 44)
                  clear hc3 g1 g2 hbw hstep hba hb f0
                  by_cases hzy : zx = yx
                  · have tt : (zx == yx) = true := by simp [hzy]
                    cases ok1 with
                    | true =>
                      have hfin : Hid (scanR yx (v0, ok0) (r.take (u + 1)) = (v1, true)) := by show _ = _; rw [Hstep.out]; simp [valStep]
                      clear hzy
                      go_wp2
                      go_roundw
                      case rel => exact ⟨u + 1, by omega, by go_num, by rw [hfin.out], by rw [hfin.out], Hba.out _⟩
                      case measure => simp [intOf]; omega
                    | false =>
                      have hfin : Hid (scanR yx (v0, ok0) (r.take (u + 1)) = (zy, true)) := by show _ = _; rw [Hstep.out]; simp [valStep, hzy]
                      clear hzy
                      go_wp2
                      go_roundw
                      case rel => exact ⟨u + 1, by omega, by go_num, by rw [hfin.out], by rw [hfin.out], Hba.out _⟩
                      case measure => simp [intOf]; omega
                  · have tt : (zx == yx) = false := by simp [hzy]
                    have hfin : Hid (scanR yx (v0, ok0) (r.take (u + 1)) = (v1, ok1)) := by show _ = _; rw [Hstep.out]; simp [valStep, hzy]
                    clear hzy
                    go_wp2
                    go_roundw
                    case rel => exact ⟨u + 1, by omega, by go_num, by rw [hfin.out], by rw [hfin.out], Hba.out _⟩
                    case measure => simp [intOf]; omega
                · obtain rfl : u = kn := by omega
                  have hrt : r.take u = r := by rw [Hkn.out, List.take_length]
                  rw [hrt]
                  have Hb9 := Lib.hid hb
                  clear hrt hb
                  generalize hS : scanR yx (v0, ok0) r = S at *
                  have HS := Lib.hid hS
                  clear hS
                  obtain ⟨v9, ok9⟩ := S
                  go_wp2
                  go_roundw
                  case rel => exact ⟨t + 1, by omega, by go_num, by rw [Hnx.out], by rw [Hnx.out], Hb9.out⟩
                  case measure => simp [intOf]; omega
            · obtain rfl : t = ls.length := by omega
              rw [List.take_length, Hsc.out]
              have hyy : (yy != yy) = false := by simp
              have Hb9 := Lib.hid (Hbx.out.trans (hb.mono Hbx.out.size))
              clear hb hbw
              go_wp2
              go_roundw
              case rel => exact ⟨k + 1, by omega, by go_num, Hb9.out⟩
              case measure => simp [intOf]; omega
        · obtain rfl : k = mN := by omega
          have Hb9 := Lib.hid (Hb3.out.trans (hb.mono hw3))
          have hs9 := Hb9.out.size
          clear hb
          go_wp2_with fail
          refine (awake_any _).mono ?_
          rintro e w5 ⟨rfl, hb5⟩
          go_wp2
          go_ret
          exact ⟨rfl, Hb9.out.trans (hb5.mono hs9)⟩
theorem mergeSorted_walk (v : Value) (ls : List (List It)) (w : World) (h : IsIts w v ls) :
    Calls Try.prog 6 #[v] w fun e w' => e = .returned (.bool true) ∧ Below w.heap.size w w' := by
  obtain ⟨a, c, rfl, -, -, -⟩ := id h
  cases hs : smallI ls with
  | false => exact sorted_skip a c ls w h (.inl hs)
  | true =>
    cases hr : runsB ls with
    | false => exact sorted_skip a c ls w h (.inr ⟨hs, hr⟩)
    | true => exact sorted_yes a c ls w h hs hr
end Go.Proofs.Ytcgkpbhoiaeolaa.Tithe
