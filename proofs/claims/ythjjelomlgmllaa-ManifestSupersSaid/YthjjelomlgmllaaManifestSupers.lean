/- THE LAW ManifestSupers: walked (printed by mksupers.py). -/
import Derived.Test.YthjjelomlgmllaaManSame
import Derived.Test.YthjjelomlgmllaaManRowsB
import Derived.Test.YthjjelomlgmllaaManAwake
import Derived.Test.YthjjelomlgmllaaManOpen
import Derived.Test.YthjjelomlgmllaaManifestJunk
namespace Go.Proofs.Ythjjelomlgmllaa.Tithe
open Go.RowKit Go.Sort Go.Shelf
set_option linter.unusedVariables false
set_option linter.unusedSimpArgs false
set_option maxRecDepth 100000
/-- what the loop keeps -/
structure SpI (w W : World) (av : Value) (A : List (Value × List Nat)) (best zone : Int) : Prop where
  oa : OwnBB W w.heap.size av A
  ea : ∀ p ∈ A, El w W p
  eq : foldS A = (best, zone)
  pos : (best = 0 ∧ zone = 0) ∨ 0 < best
  bel : Below w.heap.size w W
theorem SpI.below {w W W' : World} {av : Value} {A : List (Value × List Nat)} {best zone : Int} (h : SpI w W av A best zone) (hb : Below W.heap.size W W') : SpI w W' av A best zone :=
  ⟨own_below h.oa hb, fun p hp => (h.ea p hp).below hb, h.eq, h.pos, h.bel.trans (hb.mono h.bel.size)⟩
attribute [local go_sem] Oper.semAt_some
set_option maxHeartbeats 12800000 in
theorem manifestSupers_walk (v0 : Value) (l : List (Int × Int)) (v1 : Value) (js : List Nat) (w : World) (h0 : IsSu w v0 l) (h1 : IsBy w v1 js) :
    Calls Try.prog 5 #[v0, v1] w fun e w' => e = .returned (.bool true) ∧ Below w.heap.size w w' := by
  obtain ⟨a0, c0, rfl, -, -, -⟩ := id h0
  obtain ⟨a1, c1, rfl, -, -, -⟩ := id h1.1
  obtain ⟨-, -, -, hx0⟩ := h0.at
  obtain ⟨n0, hn0⟩ : ∃ q, q = l.length := ⟨_, rfl⟩
  obtain ⟨n1, hn1⟩ : ∃ q, q = js.length := ⟨_, rfl⟩
  rw [← hn0] at hx0 ⊢
  rw [← hn1] at h1 ⊢
  have Hn0 := Lib.hid hn0
  have Hn1 := Lib.hid hn1
  have Hx0 := Lib.hid hx0
  have Hj := Lib.hid h1
  have Haw := Lib.hid (fun X => awake16_any X)
  clear hn0 hn1 hx0 h0 h1
  go_enter Try.func5, Try.ntmps5
  by_cases h60 : 60 < n0
  · have d1 : decide ((n0 : Int) > 60) = true := decide_eq_true (by omega)
    have d2 : decide ((60 : Int) < (n0 : Int)) = true := decide_eq_true (by omega)
    go_wp2_with fail
    refine (Haw.out _).mono ?_
    rintro e w2 ⟨rfl, hb2⟩
    go_wp2_with fail
    go_ret
    exact ⟨rfl, hb2⟩
  have d1 : decide ((n0 : Int) > 60) = false := decide_eq_false (by omega)
  have d2 : decide ((60 : Int) < (n0 : Int)) = false := decide_eq_false (by omega)
  by_cases h100 : 100 < n1
  · have d3 : decide ((n1 : Int) > 100) = true := decide_eq_true (by omega)
    have d4 : decide ((100 : Int) < (n1 : Int)) = true := decide_eq_true (by omega)
    go_wp2_with fail
    refine (Haw.out _).mono ?_
    rintro e w2 ⟨rfl, hb2⟩
    go_wp2_with fail
    go_ret
    exact ⟨rfl, hb2⟩
  have d3 : decide ((n1 : Int) > 100) = false := decide_eq_false (by omega)
  have d4 : decide ((100 : Int) < (n1 : Int)) = false := decide_eq_false (by omega)
  go_wp2_with fail
  clear d1 d2 d3 d4
  go_loopw [5, 6, 7, 33] (fun av bv zv iv wr => ∃ (k : Nat) (A : List (Value × List Nat)) (best zone : Int), k ≤ n0 ∧ iv = .int .i64 k ∧ bv = .int .i64 best ∧ zv = .int .i64 zone ∧ A.length ≤ k ∧ SpI w wr av A best zone) (fun _ _ _ i _ => n0 - (intOf i).toNat)
  case atStart => exact ⟨0, [], 0, 0, Nat.zero_le _, rfl, rfl, rfl, Nat.le_refl _, ⟨World.ownsRow_nil _ _ _ _, (fun p hp => by cases hp), rfl, .inl ⟨rfl, rfl⟩, Below.refl _ _⟩⟩
  case round =>
    obtain ⟨wo, rfl⟩ : ∃ wo : World, wo = wr := ⟨_, rfl⟩
    obtain ⟨k, A, best, zone, hk, rfl, rfl, rfl, hAl, hI⟩ := hrel
    have HI := Lib.hid hI
    obtain ⟨an, han⟩ : ∃ q, q = A.length := ⟨_, rfl⟩
    have hoa := hI.oa
    rw [OwnBB, ← han] at hoa
    obtain ⟨aa, ac, rfl⟩ := own_slice hoa
    have Han := Lib.hid han
    have HAl := Lib.hid hAl
    clear hI hoa han hAl
    by_cases hkn : k < n0
    · obtain ⟨be, off, rfl, hcell⟩ := Hx0.out (by omega)
      obtain ⟨⟨g, z⟩, hxk⟩ : ∃ x, l[k]? = some x := ⟨_, List.getElem?_eq_getElem (by rw [← Hn0.out]; exact hkn)⟩
      have c0' := hcell k _ hxk 0 _ rfl
      have c1' := hcell k _ hxk 1 _ rfl
      rw [Nat.add_zero] at c0'
      have d0 := (HI.out.bel.cell (block_lt_of_cell c0')).trans c0'
      have d1 := (HI.out.bel.cell (block_lt_of_cell c1')).trans c1'
      dsimp only at d0 d1
      have hA : Below wo.heap.size wo (wo.alloc (.cells #[.int .i64 g, .int .i64 z] 49)) := (Below.refl _ _).alloc (Nat.le_refl _) _
      have HX := Lib.hid (blk_of_alloc wo (.cells #[.int .i64 g, .int .i64 z] 49))
      have HI2 := Lib.hid (HI.out.below hA)
      have Hby := Lib.hid (sbytes_any g z (wo.alloc (.cells #[.int .i64 g, .int .i64 z] 49)))
      obtain ⟨xb, hxb⟩ : ∃ q, q = wo.heap.size := ⟨_, rfl⟩
      have Hxb := Lib.hid hxb
      rw [← hxb] at HX
      clear hcell hxk c0' c1' hA hxb HI
      go_upto_region 8 with fail
      rw [← Hxb.out]
      generalize wo.alloc (.cells #[.int .i64 g, .int .i64 z] 49) = W at *
      clear Hxb d0 d1
      have q0 : W.cell? ⟨xb, 0, none⟩ = some (.int .i64 g) := by rw [cell_blkR HX.out]; rfl
      have q1 : W.cell? ⟨xb, 1, none⟩ = some (.int .i64 z) := by rw [cell_blkR HX.out]; rfl
      go_wp2_with fail
      refine Hby.out.mono ?_
      rintro e w2 ⟨hc, hb2⟩
      have HI3 := Lib.hid (HI2.out.below hb2)
      have HX3 := Lib.hid (blk_bels hb2 HX.out)
      have HWle := Lib.hid HI2.out.bel.size
      have Hc := Lib.hid hc
      clear hc hb2 HI2 Hby HX q0 q1
      have p0 : w2.cell? ⟨xb, 0, none⟩ = some (.int .i64 g) := by rw [cell_blkR HX3.out]; rfl
      have p1 : w2.cell? ⟨xb, 1, none⟩ = some (.int .i64 z) := by rw [cell_blkR HX3.out]; rfl
      obtain ⟨okv, hokv⟩ : ∃ q, q = supOk g z := ⟨_, rfl⟩
      have Hokv := Lib.hid hokv
      obtain ⟨bvv, ev, hev⟩ : ∃ bvv ev, e = .returned (.tuple #[bvv, .int .i64 ev]) := by
        rcases Hc.out with ⟨-, q⟩ | ⟨-, v', q, -⟩
        · exact ⟨_, _, q⟩
        · exact ⟨_, _, q⟩
      subst hev
      go_upto_region 9 with fail
      go_cut [12] (fun v wc => v = .bool okv ∧ wc = w2)
      case first =>
        by_cases h1 : 1 ≤ g
        · have a1 : decide (g ≥ 1) = true := decide_eq_true h1
          have a2 : decide (1 ≤ g) = true := decide_eq_true h1
          by_cases h2 : g ≤ 1099511627776
          · have a3 : decide (g ≤ 1099511627776) = true := decide_eq_true h2
            by_cases h3 : 0 ≤ z
            · have a4 : decide (z ≥ 0) = true := decide_eq_true h3
              have a5 : decide (0 ≤ z) = true := decide_eq_true h3
              have Hr : Hid (okv = decide (z ≤ 63)) := Lib.hid (by
                rw [Hokv.out]; unfold supOk; rw [a2, a3, a5]
                by_cases q : z < 64
                · rw [decide_eq_true q, decide_eq_true (show z ≤ 63 by omega)]; rfl
                · rw [decide_eq_false q, decide_eq_false (show ¬ z ≤ 63 by omega)]; rfl)
              clear hokv
              go_wp2_with fail
              go_meet
              case rel => exact ⟨by rw [Hr.out], rfl⟩
            · have a4 : decide (z ≥ 0) = false := decide_eq_false h3
              have a5 : decide (0 ≤ z) = false := decide_eq_false h3
              have Hr : Hid (okv = false) := Lib.hid (by rw [Hokv.out]; unfold supOk; rw [a5]; simp)
              clear hokv
              go_wp2_with fail
              go_meet
              case rel => exact ⟨by rw [Hr.out], rfl⟩
          · have a3 : decide (g ≤ 1099511627776) = false := decide_eq_false h2
            have Hr : Hid (okv = false) := Lib.hid (by rw [Hokv.out]; unfold supOk; rw [a3]; simp)
            clear hokv
            go_wp2_with fail
            go_meet
            case rel => exact ⟨by rw [Hr.out], rfl⟩
        · have a1 : decide (g ≥ 1) = false := decide_eq_false h1
          have a2 : decide (1 ≤ g) = false := decide_eq_false h1
          have Hr : Hid (okv = false) := Lib.hid (by rw [Hokv.out]; unfold supOk; rw [a2]; rfl)
          clear hokv
          go_wp2_with fail
          go_meet
          case rel => exact ⟨by rw [Hr.out], rfl⟩
      case rest =>
        obtain ⟨rfl, rfl⟩ := hcut
        rcases Hc.out with ⟨hno, q⟩ | ⟨hok, bv, q, hob⟩
        · obtain ⟨rfl, rfl⟩ : bvv = .slice none 0 0 ∧ ev = 20 := by
            injection q with q; injection q with q; injection q with q
            have h1 := congrArg (fun (s : List Value) => s[0]?) q
            have h2 := congrArg (fun (s : List Value) => s[1]?) q
            injection h1 with h1
            injection h2 with h2
            injection h2 with _ h2
            exact ⟨h1, h2⟩
          obtain rfl : okv = false := hokv.trans hno
          clear hno q hokv Hc p0 p1
          go_wp2_with fail
          go_roundw
          case rel => exact ⟨k + 1, A, best, zone, by omega, by go_num, rfl, rfl, by have := HAl.out; omega, HI3.out⟩
          case measure => simp [intOf]; omega
        · obtain ⟨rfl, rfl⟩ : bvv = bv ∧ ev = 0 := by
            injection q with q; injection q with q; injection q with q
            have h1 := congrArg (fun (s : List Value) => s[0]?) q
            have h2 := congrArg (fun (s : List Value) => s[1]?) q
            injection h1 with h1
            injection h2 with h2
            injection h2 with _ h2
            exact ⟨h1, h2⟩
          obtain rfl : okv = true := hokv.trans hok
          have hok2 := hok
          unfold supOk at hok2
          simp only [Bool.and_eq_true, decide_eq_true_eq] at hok2
          obtain ⟨⟨⟨h1, h2⟩, h3⟩, h4⟩ := hok2
          obtain ⟨gn, rfl⟩ : ∃ q : Nat, g = (q : Int) := ⟨g.toNat, by omega⟩
          obtain ⟨zn, rfl⟩ : ∃ q : Nat, z = (q : Int) := ⟨z.toNat, by omega⟩
          have Hok := Lib.hid hok
          have hEl : El w wc (bvv, encS ((gn : Int), (zn : Int))) := ⟨.inr (own_mono hob HWle.out), (encS_lt hok).1, (encS_lt hok).2⟩
          have HEl := Lib.hid hEl
          obtain ⟨bvn, hbvn⟩ : ∃ q, q = (encS ((gn : Int), (zn : Int))).length := ⟨_, rfl⟩
          have hob2 := hob
          rw [OwnBs, ← hbvn] at hob2
          obtain ⟨bva, bvc, rfl⟩ := own_slice hob2
          have hgn : gn < 9223372036854775808 := by omega
          have hzn : zn < 9223372036854775808 := by omega
          have hgp : 1 ≤ gn := by omega
          clear hok hob hob2 hEl hbvn q hokv Hc Hokv h1 h2 h3 h4
          go_upto_region 13 with fail
          have HBd := Lib.hid ((Below.refl wc.heap.size wc).drew)
          refine wp_region_held_drew (S := fun V' => Hid (Below wc.heap.size wc V')) (by kernel_rfl) (Lib.hid ((Below.refl _ _).drew)) (fun hS0 => ?_)
          refine wpAnyH_take (i := 0) (oi := { dst := some 79, op := Op.fieldAddr 49 (Operand.tmp 9) 0, type := 0, pos := "law.go:163", after := #[], guard := none }) (v := ?_) rfl (by kernel_rfl) (by kernel_rfl) (by kernel_rfl) (fun _ _ _ h => h) (Or.inl ⟨by rfl, ?hy1⟩) hS0 ?_
          case hy1 => (intro V hSw; (try dsimp only at hSw); clear hSw; go_simp; try with_reducible rfl)
          try simp only [Act.put, List.setIfInBounds_toArray, List.set_cons_zero, List.set_cons_succ]
          refine wpAnyH_take (i := 1) (oi := { dst := some 80, op := Op.load 3 (Operand.tmp 79), type := 3, pos := "law.go:163", after := #[{ on := 0, ground := Ground.data }], guard := none }) (v := ?_) rfl (by kernel_rfl) (by kernel_rfl) (by kernel_rfl) (fun _ _ _ h => h) (Or.inl ⟨by rfl, ?hy2⟩) hS0 ?_
          case hy2 => (intro V hSw; (try dsimp only at hSw); have q0 := grow_cell hSw.out (block_lt_of_cell p0) p0; have q1 := grow_cell hSw.out (block_lt_of_cell p1) p1; clear hSw; go_simp; try with_reducible rfl)
          try simp only [Act.put, List.setIfInBounds_toArray, List.set_cons_zero, List.set_cons_succ]
          refine wpAnyH_take (i := 3) (oi := { dst := some 82, op := Op.fieldAddr 49 (Operand.tmp 9) 1, type := 0, pos := "law.go:163", after := #[], guard := none }) (v := ?_) rfl (by kernel_rfl) (by kernel_rfl) (by kernel_rfl) (fun _ _ _ h => h) (Or.inl ⟨by rfl, ?hy3⟩) hS0 ?_
          case hy3 => (intro V hSw; (try dsimp only at hSw); clear hSw; go_simp; try with_reducible rfl)
          try simp only [Act.put, List.setIfInBounds_toArray, List.set_cons_zero, List.set_cons_succ]
          refine wpAnyH_take (i := 4) (oi := { dst := some 83, op := Op.load 3 (Operand.tmp 82), type := 3, pos := "law.go:163", after := #[{ on := 3, ground := Ground.data }], guard := none }) (v := ?_) rfl (by kernel_rfl) (by kernel_rfl) (by kernel_rfl) (fun _ _ _ h => h) (Or.inl ⟨by rfl, ?hy4⟩) hS0 ?_
          case hy4 => (intro V hSw; (try dsimp only at hSw); have q0 := grow_cell hSw.out (block_lt_of_cell p0) p0; have q1 := grow_cell hSw.out (block_lt_of_cell p1) p1; clear hSw; go_simp; try with_reducible rfl)
          try simp only [Act.put, List.setIfInBounds_toArray, List.set_cons_zero, List.set_cons_succ]
          refine wpAnyH_ready (rs := [2]) (by kernel_rfl) (by simp) (AllReadyH.cons rfl (fun K hK => ?_) AllReadyH.nil)
          go_simp
          refine (rnum_any gn _ hgn).mono ?_
          rintro e wv5 ⟨v5, rfl, ho5, hv5⟩
          obtain ⟨e1n, he1n⟩ : ∃ q, q = (encN gn).length := ⟨_, rfl⟩
          have hoq5 := ho5
          rw [OwnBs, ← he1n] at hoq5
          obtain ⟨e1a, e1c, rfl⟩ := own_slice hoq5
          have HO1 := Lib.hid (own_mono ho5 hS0.out.size)
          have hS5 := Lib.hid (hS0.out.trans (hv5.mono hS0.out.size))
          clear ho5 hv5 hoq5 he1n
          refine hK.out _ _ hS5 (fun _ => ?_)
          clear hK K
          try simp only [Act.put, List.setIfInBounds_toArray, List.set_cons_zero, List.set_cons_succ]
          refine wpAnyH_ready (rs := [5]) (by kernel_rfl) (by simp) (AllReadyH.cons rfl (fun K hK => ?_) AllReadyH.nil)
          go_simp
          refine (rnum_any zn _ hzn).mono ?_
          rintro e wv6 ⟨v6, rfl, ho6, hv6⟩
          obtain ⟨e2n, he2n⟩ : ∃ q, q = (encN zn).length := ⟨_, rfl⟩
          have hoq6 := ho6
          rw [OwnBs, ← he2n] at hoq6
          obtain ⟨e2a, e2c, rfl⟩ := own_slice hoq6
          have HO1b := Lib.hid (own_below HO1.out hv6)
          have HO2 : Hid (IsBs wv6 (.slice e2a e2n e2c) (encN zn)) := Lib.hid (isSl_own byteC_len ho6)
          have hS6 := Lib.hid (hS5.out.trans (hv6.mono hS5.out.size))
          clear ho6 hv6 hoq6 he2n
          refine hK.out _ _ hS6 (fun _ => ?_)
          clear hK K
          try simp only [Act.put, List.setIfInBounds_toArray, List.set_cons_zero, List.set_cons_succ]
          refine wpAnyH_ready (rs := [6]) (by kernel_rfl) (by simp) (AllReadyH.cons rfl (fun K hK => ?_) AllReadyH.nil)
          obtain ⟨v9, w9, hrun9, ho9, hg9, -⟩ := app_bs wv6 wc.heap.size _ _ (encN gn) (encN zn) HO1b.out HO2.out (by have h1 := encN_le gn; have h2 := encN_le zn; omega) hS6.out.size
          obtain ⟨e9n, he9n⟩ : ∃ q, q = (encN gn ++ encN zn).length := ⟨_, rfl⟩
          have ho9q := ho9
          rw [← he9n] at ho9q
          obtain ⟨e9a, e9c, rfl⟩ := own_slice ho9q
          have HO9 : Hid (IsBs w9 (.slice e9a e9n e9c) (encS ((gn : Int), (zn : Int)))) := Lib.hid (isSl_own byteC_len ho9)
          have hS7 := Lib.hid (hS6.out.grown hg9 hS6.out.size (fun g e => (HO1b.out.lt g e).1))
          clear ho9 ho9q hg9 he9n
          refine wp_append_run (.tmp 81) (.tmp 84) 34 rfl _ _ _ _ rfl rfl hrun9 ?_
          clear hrun9
          refine hK.out _ _ hS7 (fun _ => ?_)
          clear hK K
          try simp only [Act.put, List.setIfInBounds_toArray, List.set_cons_zero, List.set_cons_succ]
          refine wpAnyH_ready (rs := [7]) (by kernel_rfl) (by simp) (AllReadyH.cons rfl (fun K hK => ?_) AllReadyH.nil)
          go_simp
          refine hK.out _ _ hS7 (fun _ => ?_)
          clear hK K
          try simp only [Act.put, List.setIfInBounds_toArray, List.set_cons_zero, List.set_cons_succ]
          refine wpAnyH_done (by kernel_rfl) ?_ _
          have HI4 := Lib.hid (HI3.out.below hS7.out)
          have HX4 := Lib.hid (blk_bels hS7.out HX3.out)
          have HEl4 := Lib.hid (HEl.out.below hS7.out)
          have hpa := sparse_any _ _ w9 (HEl4.out.is HI4.out.bel).1 (encS_lt Hok.out).1 (encS_lt Hok.out).2
          rw [supO_yes (supP_enc (x := ((gn : Int), (zn : Int))) Hok.out)] at hpa
          dsimp only at hpa
          have Hpa := Lib.hid hpa
          clear hpa hS0 p0 p1 HI3 HX3 HEl
          go_wp2_with fail
          refine Hpa.out.mono ?_
          rintro e w10 ⟨rfl, hb10⟩
          have hA : Below w10.heap.size w10 (w10.alloc (.cells #[.int .i64 (gn : Int), .int .i64 (zn : Int)] 49)) := (Below.refl _ _).alloc (Nat.le_refl _) _
          have HY := Lib.hid (blk_of_alloc w10 (.cells #[.int .i64 (gn : Int), .int .i64 (zn : Int)] 49))
          have HI5 := Lib.hid ((HI4.out.below hb10).below hA)
          have HX5 := Lib.hid (blk_bels hA (blk_bels hb10 HX4.out))
          have HEl5 := Lib.hid ((HEl4.out.below hb10).below hA)
          have HO5 := Lib.hid ((HO9.out.below hb10).below hA)
          have Hsa := Lib.hid (same_yes _ _ _ _ (HEl5.out.is HI5.out.bel).1 HO5.out)
          obtain ⟨yb, hyb⟩ : ∃ q, q = w10.heap.size := ⟨_, rfl⟩
          have Hyb := Lib.hid hyb
          rw [← hyb] at HY
          clear hb10 hA hyb Hpa HI4 HX4 HEl4 HO9
          go_upto_region 15 with fail
          rw [← Hyb.out]
          generalize w10.alloc (.cells #[.int .i64 (gn : Int), .int .i64 (zn : Int)] 49) = W5 at *
          clear Hyb
          have y0 : W5.cell? ⟨yb, 0, none⟩ = some (.int .i64 (gn : Int)) := by rw [cell_blkR HY.out]; rfl
          have y1 : W5.cell? ⟨yb, 1, none⟩ = some (.int .i64 (zn : Int)) := by rw [cell_blkR HY.out]; rfl
          have x0 : W5.cell? ⟨xb, 0, none⟩ = some (.int .i64 (gn : Int)) := by rw [cell_blkR HX5.out]; rfl
          have x1 : W5.cell? ⟨xb, 1, none⟩ = some (.int .i64 (zn : Int)) := by rw [cell_blkR HX5.out]; rfl
          go_wp2_with fail
          refine Hsa.out.mono ?_
          rintro e w6 ⟨rfl, rfl⟩
          obtain ⟨xa', xn', xc', w7, hrunA, ho7, hb7, hS7, hE7, -⟩ := push_bc w6 w.heap.size _ A (.slice bva bvn bvc, encS ((gn : Int), (zn : Int))) ⟨_, _, _, rfl⟩ HI5.out.oa (by have := HAl.out; omega) HI5.out.bel.size
          dsimp only at hrunA
          have hfo : foldS (A ++ [((.slice bva bvn bvc : Value), encS ((gn : Int), (zn : Int)))]) = if best ≤ (gn : Int) then ((gn : Int), (zn : Int)) else (best, zone) := by
            rw [foldS_add, HI5.out.eq]
            exact newS_enc (best, zone) (x := ((gn : Int), (zn : Int))) Hok.out
          have hO7 : ∀ p ∈ A ++ [((.slice bva bvn bvc : Value), encS ((gn : Int), (zn : Int)))], El w w7 p := fun p hp => by
            rcases List.mem_append.1 hp with hp | hp
            · exact hE7 _ p rfl (HI5.out.ea p hp)
            · obtain rfl := List.mem_singleton.1 hp; exact hE7 _ _ rfl HEl5.out
          have hX7 : w7.heap[xb]? = some (.cells #[.int .i64 (gn : Int), .int .i64 (zn : Int)] 49 (0, 0)) := hS7 _ _ _ _ HX5.out (by decide)
          have HI7a := Lib.hid (And.intro ho7 (And.intro hO7 (HI5.out.bel.trans hb7)))
          have Hfo := Lib.hid hfo
          have HX7 := Lib.hid hX7
          have Hpos5 := Lib.hid HI5.out.pos
          have HAl7 : Hid ((A ++ [((.slice bva bvn bvc : Value), encS ((gn : Int), (zn : Int)))]).length ≤ k + 1) := Lib.hid (by rw [List.length_append, List.length_singleton]; have := HAl.out; omega)
          have u0 : w7.cell? ⟨xb, 0, none⟩ = some (.int .i64 (gn : Int)) := by rw [cell_blkR HX7.out]; rfl
          have u1 : w7.cell? ⟨xb, 1, none⟩ = some (.int .i64 (zn : Int)) := by rw [cell_blkR HX7.out]; rfl
          clear ho7 hb7 hS7 hE7 hO7 hfo hX7 HI5 HX5 HEl5 HO5 Hsa HY
          by_cases hle : best ≤ (gn : Int)
          · have e1 : decide ((gn : Int) ≥ best) = true := decide_eq_true hle
            have e2 : decide (best ≤ (gn : Int)) = true := decide_eq_true hle
            have HI8 : Hid (SpI w w7 (.slice xa' xn' xc') (A ++ [((.slice bva bvn bvc : Value), encS ((gn : Int), (zn : Int)))]) (gn : Int) (zn : Int)) := Lib.hid ⟨HI7a.out.1, HI7a.out.2.1, by rw [Hfo.out, if_pos hle], .inr (by omega), HI7a.out.2.2⟩
            go_upto_region 19 with (at_builtin; first | (refine wpList_val rfl _ _ (run_append_op (.tmp 104) (.tmp 106) 47 47 rfl rfl rfl hrunA) ?_) | (refine wpList_val rfl _ _ (run_append_op (.tmp 104) (.tmp 106) 47 47 rfl (by simp) (by simp) hrunA) ?_))
            refine wp_region_held_drew (S := fun V' => Hid (Below w7.heap.size w7 V')) (by kernel_rfl) (Lib.hid ((Below.refl _ _).drew)) (fun hS0 => ?_)
            refine wpAnyH_take (i := 0) (oi := { dst := some 112, op := Op.fieldAddr 49 (Operand.tmp 9) 0, type := 0, pos := "law.go:170", after := #[], guard := none }) (v := ?_) rfl (by kernel_rfl) (by kernel_rfl) (by kernel_rfl) (fun _ _ _ h => h) (Or.inl ⟨by rfl, ?hy8⟩) hS0 ?_
            case hy8 => (intro V hSw; (try dsimp only at hSw); clear hSw; go_simp; try with_reducible rfl)
            try simp only [Act.put, List.setIfInBounds_toArray, List.set_cons_zero, List.set_cons_succ]
            refine wpAnyH_take (i := 1) (oi := { dst := some 113, op := Op.load 3 (Operand.tmp 112), type := 3, pos := "law.go:170", after := #[{ on := 0, ground := Ground.data }], guard := none }) (v := ?_) rfl (by kernel_rfl) (by kernel_rfl) (by kernel_rfl) (fun _ _ _ h => h) (Or.inl ⟨by rfl, ?hy9⟩) hS0 ?_
            case hy9 => (intro V hSw; (try dsimp only at hSw); have q0 := grow_cell hSw.out (block_lt_of_cell u0) u0; have q1 := grow_cell hSw.out (block_lt_of_cell u1) u1; clear hSw; go_simp; try with_reducible rfl)
            try simp only [Act.put, List.setIfInBounds_toArray, List.set_cons_zero, List.set_cons_succ]
            refine wpAnyH_take (i := 2) (oi := { dst := some 114, op := Op.fieldAddr 49 (Operand.tmp 9) 1, type := 0, pos := "law.go:170", after := #[{ on := 4, ground := Ground.gcOnly Departure.lateStores }], guard := none }) (v := ?_) rfl (by kernel_rfl) (by kernel_rfl) (by kernel_rfl) (fun _ _ _ h => h) (Or.inl ⟨by rfl, ?hy10⟩) hS0 ?_
            case hy10 => (intro V hSw; (try dsimp only at hSw); clear hSw; go_simp; try with_reducible rfl)
            try simp only [Act.put, List.setIfInBounds_toArray, List.set_cons_zero, List.set_cons_succ]
            refine wpAnyH_take (i := 3) (oi := { dst := some 115, op := Op.load 3 (Operand.tmp 114), type := 3, pos := "law.go:170", after := #[{ on := 2, ground := Ground.data }, { on := 4, ground := Ground.gcOnly Departure.lateStores }], guard := none }) (v := ?_) rfl (by kernel_rfl) (by kernel_rfl) (by kernel_rfl) (fun _ _ _ h => h) (Or.inl ⟨by rfl, ?hy11⟩) hS0 ?_
            case hy11 => (intro V hSw; (try dsimp only at hSw); have q0 := grow_cell hSw.out (block_lt_of_cell u0) u0; have q1 := grow_cell hSw.out (block_lt_of_cell u1) u1; clear hSw; go_simp; try with_reducible rfl)
            try simp only [Act.put, List.setIfInBounds_toArray, List.set_cons_zero, List.set_cons_succ]
            refine wpAnyH_take (i := 4) (oi := { dst := some 6, op := Op.assign (Operand.tmp 113), type := 3, pos := "law.go:170", after := #[{ on := 1, ground := Ground.data }, { on := 0, ground := Ground.phase }, { on := 1, ground := Ground.phase }, { on := 2, ground := Ground.textOnly Departure.lateStores }, { on := 3, ground := Ground.textOnly Departure.lateStores }], guard := none }) (v := ?_) rfl (by kernel_rfl) (by kernel_rfl) (by kernel_rfl) (fun _ _ _ h => h) (Or.inl ⟨by rfl, ?hy12⟩) hS0 ?_
            case hy12 => (intro V hSw; (try dsimp only at hSw); clear hSw; go_simp; try with_reducible rfl)
            try simp only [Act.put, List.setIfInBounds_toArray, List.set_cons_zero, List.set_cons_succ]
            refine wpAnyH_ready (rs := [5]) (by kernel_rfl) (by simp) (AllReadyH.cons rfl (fun K hK => ?_) AllReadyH.nil)
            go_simp
            refine hK.out _ _ hS0 (fun _ => ?_)
            clear hK K
            try simp only [Act.put, List.setIfInBounds_toArray, List.set_cons_zero, List.set_cons_succ]
            refine wpAnyH_done (by kernel_rfl) ?_ _
            go_wp2_with fail
            go_roundw
            case rel => exact ⟨k + 1, _, (gn : Int), (zn : Int), by omega, by go_num, rfl, rfl, HAl7.out, HI8.out.below ((Below.refl _ _).drew)⟩
            case measure => simp [intOf]; omega
          · have e1 : decide ((gn : Int) ≥ best) = false := decide_eq_false hle
            have e2 : decide (best ≤ (gn : Int)) = false := decide_eq_false hle
            have HI8 : Hid (SpI w w7 (.slice xa' xn' xc') (A ++ [((.slice bva bvn bvc : Value), encS ((gn : Int), (zn : Int)))]) best zone) := Lib.hid ⟨HI7a.out.1, HI7a.out.2.1, by rw [Hfo.out, if_neg hle], Hpos5.out, HI7a.out.2.2⟩
            go_wp2_with (at_builtin; first | (refine wpList_val rfl _ _ (run_append_op (.tmp 104) (.tmp 106) 47 47 rfl rfl rfl hrunA) ?_) | (refine wpList_val rfl _ _ (run_append_op (.tmp 104) (.tmp 106) 47 47 rfl (by simp) (by simp) hrunA) ?_))
            go_roundw
            case rel => exact ⟨k + 1, _, best, zone, by omega, by go_num, rfl, rfl, HAl7.out, HI8.out⟩
            case measure => simp [intOf]; omega
    · obtain rfl : k = n0 := by omega
      have Hnw := Lib.hid (newest_any _ A wo ⟨isSl_own bbC_len HI.out.oa, fun p hp => (HI.out.ea p hp).is HI.out.bel⟩)
      rw [show (A.map (·.2)).foldl newS (0, 0) = (best, zone) from HI.out.eq] at Hnw
      dsimp only at Hnw
      have hpos := HI.out.pos
      have HB := Lib.hid HI.out.bel
      clear HI
      go_wp2_with fail
      refine Hnw.out.mono ?_
      rintro e w2 ⟨rfl, hb2⟩
      have hA : Below w2.heap.size w2 (w2.alloc (.cells #[.int .i64 best, .int .i64 zone] 49)) := (Below.refl _ _).alloc (Nat.le_refl _) _
      have HP := Lib.hid (blk_of_alloc w2 (.cells #[.int .i64 best, .int .i64 zone] 49))
      have HB2 := Lib.hid (HB.out.trans ((hb2.trans (hA.mono hb2.size)).mono HB.out.size))
      have Hpa := Lib.hid (sparse_any _ js _ (Hj.out.1.below HB2.out) Hj.out.2 (by rw [← Hn1.out]; omega))
      obtain ⟨pb, hpb⟩ : ∃ q, q = w2.heap.size := ⟨_, rfl⟩
      have Hpb := Lib.hid hpb
      rw [← hpb] at HP
      clear hb2 hA hpb Hnw HB
      have Hpos := Lib.hid hpos
      clear hpos
      go_upto_region 22 with fail
      rw [← Hpb.out]
      generalize w2.alloc (.cells #[.int .i64 best, .int .i64 zone] 49) = W2 at *
      clear Hpb
      have x0 : W2.cell? ⟨pb, 0, none⟩ = some (.int .i64 best) := by rw [cell_blkR HP.out]; rfl
      have x1 : W2.cell? ⟨pb, 1, none⟩ = some (.int .i64 zone) := by rw [cell_blkR HP.out]; rfl
      obtain ⟨sp, hsp⟩ : ∃ q, q = supP js := ⟨_, rfl⟩
      have Hsp := Lib.hid hsp
      clear hsp
      rcases Hpos.out with ⟨rfl, rfl⟩ | hbp
      · go_wp2_with fail
        refine Hpa.out.mono ?_
        rintro e w4 ⟨he4, hb4⟩
        cases sp with
        | none =>
          rw [supO_no Hsp.out.symm] at he4
          subst he4
          have hA : Below w4.heap.size w4 (w4.alloc (.cells #[.int .i64 0, .int .i64 0] 49)) := (Below.refl _ _).alloc (Nat.le_refl _) _
          have HQ := Lib.hid (blk_of_alloc w4 (.cells #[.int .i64 0, .int .i64 0] 49))
          have HB4 := Lib.hid (HB2.out.trans ((hb4.trans (hA.mono hb4.size)).mono HB2.out.size))
          obtain ⟨qb, hqb⟩ : ∃ q, q = w4.heap.size := ⟨_, rfl⟩
          have Hqb := Lib.hid hqb
          rw [← hqb] at HQ
          clear hb4 hA hqb Hpa
          go_upto_region 25 with fail
          rw [← Hqb.out]
          generalize w4.alloc (.cells #[.int .i64 0, .int .i64 0] 49) = W4 at *
          have y0 : W4.cell? ⟨qb, 0, none⟩ = some (.int .i64 0) := by rw [cell_blkR HQ.out]; rfl
          have y1 : W4.cell? ⟨qb, 1, none⟩ = some (.int .i64 0) := by rw [cell_blkR HQ.out]; rfl
          go_wp2_with fail
          refine (Haw.out _).mono ?_
          rintro e w6 ⟨rfl, hb6⟩
          go_wp2_with fail
          go_ret
          exact ⟨rfl, HB4.out.trans (hb6.mono HB4.out.size)⟩
        | some x =>
          obtain ⟨j1, j2⟩ := x
          rw [supO_yes Hsp.out.symm] at he4
          subst he4
          have hok := supP_ok Hsp.out.symm
          have hinv := supP_inv Hj.out.2 Hsp.out.symm
          have hA : Below w4.heap.size w4 (w4.alloc (.cells #[.int .i64 j1, .int .i64 j2] 49)) := (Below.refl _ _).alloc (Nat.le_refl _) _
          have HQ := Lib.hid (blk_of_alloc w4 (.cells #[.int .i64 j1, .int .i64 j2] 49))
          have HB4 := Lib.hid (HB2.out.trans ((hb4.trans (hA.mono hb4.size)).mono HB2.out.size))
          have Hby := Lib.hid (sbytes_any j1 j2 (w4.alloc (.cells #[.int .i64 j1, .int .i64 j2] 49)))
          have Hjo := Lib.hid (Hj.out.1.below HB4.out)
          obtain ⟨qb, hqb⟩ : ∃ q, q = w4.heap.size := ⟨_, rfl⟩
          have Hqb := Lib.hid hqb
          rw [← hqb] at HQ
          have Hok := Lib.hid hok
          have Hinv := Lib.hid hinv
          clear hb4 hA hqb Hpa hok hinv
          go_upto_region 27 with fail
          rw [← Hqb.out]
          generalize w4.alloc (.cells #[.int .i64 j1, .int .i64 j2] 49) = W4 at *
          have y0 : W4.cell? ⟨qb, 0, none⟩ = some (.int .i64 j1) := by rw [cell_blkR HQ.out]; rfl
          have y1 : W4.cell? ⟨qb, 1, none⟩ = some (.int .i64 j2) := by rw [cell_blkR HQ.out]; rfl
          go_wp2_with fail
          refine Hby.out.mono ?_
          rintro e w5 ⟨hc, hb5⟩
          rcases hc with ⟨hno, -⟩ | ⟨-, cv, rfl, hoc⟩
          · rw [Hok.out] at hno; cases hno
          rw [show encS (j1, j2) = js from Hinv.out.symm] at hoc
          have hcs : IsBs w5 cv js := isSl_own byteC_len hoc
          obtain ⟨ca, cc, rfl, -, -, -⟩ := id hcs
          have hsa := same_yes _ _ _ _ hcs (Hjo.out.below hb5)
          rw [← Hn1.out] at hsa
          have Hsa := Lib.hid hsa
          have HB5 := Lib.hid (HB4.out.trans (hb5.mono HB4.out.size))
          clear hoc hcs hsa hb5
          rw [← Hn1.out]
          go_wp2_with fail
          refine Hsa.out.mono ?_
          rintro e w6 ⟨rfl, rfl⟩
          go_wp2_with fail
          refine (Haw.out _).mono ?_
          rintro e w7 ⟨rfl, hb7⟩
          go_wp2_with fail
          go_ret
          exact ⟨rfl, HB5.out.trans (hb7.mono HB5.out.size)⟩
      · have g1 : decide (best > 0) = true := decide_eq_true hbp
        have g2 : decide (0 < best) = true := decide_eq_true hbp
        go_wp2_with fail
        refine Hpa.out.mono ?_
        rintro e w4 ⟨he4, hb4⟩
        cases sp with
        | none =>
          rw [supO_no Hsp.out.symm] at he4
          subst he4
          have hA : Below w4.heap.size w4 (w4.alloc (.cells #[.int .i64 0, .int .i64 0] 49)) := (Below.refl _ _).alloc (Nat.le_refl _) _
          have HQ := Lib.hid (blk_of_alloc w4 (.cells #[.int .i64 0, .int .i64 0] 49))
          have HB4 := Lib.hid (HB2.out.trans ((hb4.trans (hA.mono hb4.size)).mono HB2.out.size))
          obtain ⟨qb, hqb⟩ : ∃ q, q = w4.heap.size := ⟨_, rfl⟩
          have Hqb := Lib.hid hqb
          rw [← hqb] at HQ
          clear hb4 hA hqb Hpa
          go_upto_region 25 with fail
          rw [← Hqb.out]
          generalize w4.alloc (.cells #[.int .i64 0, .int .i64 0] 49) = W4 at *
          have y0 : W4.cell? ⟨qb, 0, none⟩ = some (.int .i64 0) := by rw [cell_blkR HQ.out]; rfl
          have y1 : W4.cell? ⟨qb, 1, none⟩ = some (.int .i64 0) := by rw [cell_blkR HQ.out]; rfl
          go_wp2_with fail
          refine (Haw.out _).mono ?_
          rintro e w6 ⟨rfl, hb6⟩
          go_wp2_with fail
          go_ret
          exact ⟨rfl, HB4.out.trans (hb6.mono HB4.out.size)⟩
        | some x =>
          obtain ⟨j1, j2⟩ := x
          rw [supO_yes Hsp.out.symm] at he4
          subst he4
          have hok := supP_ok Hsp.out.symm
          have hinv := supP_inv Hj.out.2 Hsp.out.symm
          have hA : Below w4.heap.size w4 (w4.alloc (.cells #[.int .i64 j1, .int .i64 j2] 49)) := (Below.refl _ _).alloc (Nat.le_refl _) _
          have HQ := Lib.hid (blk_of_alloc w4 (.cells #[.int .i64 j1, .int .i64 j2] 49))
          have HB4 := Lib.hid (HB2.out.trans ((hb4.trans (hA.mono hb4.size)).mono HB2.out.size))
          have Hby := Lib.hid (sbytes_any j1 j2 (w4.alloc (.cells #[.int .i64 j1, .int .i64 j2] 49)))
          have Hjo := Lib.hid (Hj.out.1.below HB4.out)
          obtain ⟨qb, hqb⟩ : ∃ q, q = w4.heap.size := ⟨_, rfl⟩
          have Hqb := Lib.hid hqb
          rw [← hqb] at HQ
          have Hok := Lib.hid hok
          have Hinv := Lib.hid hinv
          clear hb4 hA hqb Hpa hok hinv
          go_upto_region 27 with fail
          rw [← Hqb.out]
          generalize w4.alloc (.cells #[.int .i64 j1, .int .i64 j2] 49) = W4 at *
          have y0 : W4.cell? ⟨qb, 0, none⟩ = some (.int .i64 j1) := by rw [cell_blkR HQ.out]; rfl
          have y1 : W4.cell? ⟨qb, 1, none⟩ = some (.int .i64 j2) := by rw [cell_blkR HQ.out]; rfl
          go_wp2_with fail
          refine Hby.out.mono ?_
          rintro e w5 ⟨hc, hb5⟩
          rcases hc with ⟨hno, -⟩ | ⟨-, cv, rfl, hoc⟩
          · rw [Hok.out] at hno; cases hno
          rw [show encS (j1, j2) = js from Hinv.out.symm] at hoc
          have hcs : IsBs w5 cv js := isSl_own byteC_len hoc
          obtain ⟨ca, cc, rfl, -, -, -⟩ := id hcs
          have hsa := same_yes _ _ _ _ hcs (Hjo.out.below hb5)
          rw [← Hn1.out] at hsa
          have Hsa := Lib.hid hsa
          have HB5 := Lib.hid (HB4.out.trans (hb5.mono HB4.out.size))
          clear hoc hcs hsa hb5
          rw [← Hn1.out]
          go_wp2_with fail
          refine Hsa.out.mono ?_
          rintro e w6 ⟨rfl, rfl⟩
          go_wp2_with fail
          refine (Haw.out _).mono ?_
          rintro e w7 ⟨rfl, hb7⟩
          go_wp2_with fail
          go_ret
          exact ⟨rfl, HB5.out.trans (hb7.mono HB5.out.size)⟩
end Go.Proofs.Ythjjelomlgmllaa.Tithe
