/- Supers: right, Bytes, ParseSuper, Newest: walked (printed by mkmansup.py). -/
import Derived.Test.YthjjelomlgmllaaManRep
import Derived.Test.YthjjelomlgmllaaManRec
namespace Go.Proofs.Ythjjelomlgmllaa.Tithe
open Go.RowKit Go.Sort Go.Shelf
set_option linter.unusedVariables false
set_option linter.unusedSimpArgs false
set_option maxRecDepth 100000
def supOk (g z : Int) : Bool := decide (1 ≤ g) && decide (g ≤ 1099511627776) && decide (0 ≤ z) && decide (z < 64)
def encS (x : Int × Int) : List Nat := encN x.1.toNat ++ encN x.2.toNat
def supP (bs : List Nat) : Option (Int × Int) :=
  let p := numB false bs
  let q := numB p.2.2 p.2.1
  if (!q.2.2 && q.2.1.isEmpty) && supOk p.1 q.1 then some ((p.1 : Int), (q.1 : Int)) else none
attribute [local go_sem] Oper.semAt_some
theorem sright_any (g z : Int) (w : World) : Calls Try.prog 47 #[.agg #[.int .i64 g, .int .i64 z]] w fun e w' => e = .returned (.bool (supOk g z)) ∧ Below w.heap.size w w' := by
  have hal : Below w.heap.size w (w.alloc (.cells #[.int .i64 g, .int .i64 z] 49)) := (Below.refl _ _).alloc (Nat.le_refl _) _
  have Hal := Lib.hid hal
  obtain ⟨q, hq⟩ : ∃ q, q = supOk g z := ⟨_, rfl⟩
  rw [← hq]
  have Hq := Lib.hid hq
  clear hal hq
  by_cases h1 : 1 ≤ g
  · have a1 : decide (g ≥ 1) = true := decide_eq_true h1
    have a2 : decide (1 ≤ g) = true := decide_eq_true h1
    by_cases h2 : g ≤ 1099511627776
    · have a3 : decide (g ≤ 1099511627776) = true := decide_eq_true h2
      by_cases h3 : 0 ≤ z
      · have a4 : decide (z ≥ 0) = true := decide_eq_true h3
        have a5 : decide (0 ≤ z) = true := decide_eq_true h3
        have Hr : Hid (q = decide (z < 64)) := Lib.hid (by rw [Hq.out]; unfold supOk; rw [a2, a3, a5]; rfl)
        go_enter Try.func47, Try.ntmps47
        go_wp2
        go_ret
        exact ⟨by rw [Hr.out]; rfl, Hal.out⟩
      · have a4 : decide (z ≥ 0) = false := decide_eq_false h3
        have a5 : decide (0 ≤ z) = false := decide_eq_false h3
        have Hr : Hid (q = false) := Lib.hid (by rw [Hq.out]; unfold supOk; rw [a5]; simp)
        go_enter Try.func47, Try.ntmps47
        go_wp2
        go_ret
        exact ⟨by rw [Hr.out]; rfl, Hal.out⟩
    · have a3 : decide (g ≤ 1099511627776) = false := decide_eq_false h2
      have Hr : Hid (q = false) := Lib.hid (by rw [Hq.out]; unfold supOk; rw [a3]; simp)
      go_enter Try.func47, Try.ntmps47
      go_wp2
      go_ret
      exact ⟨by rw [Hr.out]; rfl, Hal.out⟩
  · have a1 : decide (g ≥ 1) = false := decide_eq_false h1
    have a2 : decide (1 ≤ g) = false := decide_eq_false h1
    have Hr : Hid (q = false) := Lib.hid (by rw [Hq.out]; unfold supOk; rw [a2]; rfl)
    go_enter Try.func47, Try.ntmps47
    go_wp2
    go_ret
    exact ⟨by rw [Hr.out]; rfl, Hal.out⟩
def SupB (w : World) (x : Int × Int) (e : Ending) (w' : World) : Prop := (supOk x.1 x.2 = false ∧ e = .returned (.tuple #[.slice none 0 0, .int .i64 20]) ∨ supOk x.1 x.2 = true ∧ ∃ v', e = .returned (.tuple #[v', .int .i64 0]) ∧ OwnBs w' w.heap.size v' (encS x)) ∧ Below w.heap.size w w'
set_option maxHeartbeats 3200000 in
theorem sbytes_any (g z : Int) (w : World) : Calls Try.prog 19 #[.agg #[.int .i64 g, .int .i64 z]] w fun e w' => SupB w (g, z) e w' := by
  have hal : Below w.heap.size w (w.alloc (.cells #[.int .i64 g, .int .i64 z] 49)) := (Below.refl _ _).alloc (Nat.le_refl _) _
  have Hal := Lib.hid hal
  have HK := Lib.hid (blk_of_alloc w (.cells #[.int .i64 g, .int .i64 z] 49))
  have Hrt := Lib.hid (fun X => sright_any g z X)
  obtain ⟨xb, hxb⟩ : ∃ q, q = w.heap.size := ⟨_, rfl⟩
  have Hxb := Lib.hid hxb
  rw [← hxb] at HK
  clear hal hxb
  go_enter Try.func19, Try.ntmps19
  go_upto_region 1 with fail
  rw [← Hxb.out]
  generalize w.alloc (.cells #[.int .i64 g, .int .i64 z] 49) = W at *
  have c0 : W.cell? ⟨xb, 0, none⟩ = some (.int .i64 g) := by rw [cell_blkR HK.out]; rfl
  have c1 : W.cell? ⟨xb, 1, none⟩ = some (.int .i64 z) := by rw [cell_blkR HK.out]; rfl
  go_wp2_with fail
  refine (Hrt.out _).mono ?_
  rintro e w2 ⟨rfl, hb2⟩
  have HK2 := Lib.hid (blk_bels hb2 HK.out)
  have HB2 := Lib.hid (Hal.out.trans (hb2.mono Hal.out.size))
  clear hb2 c0 c1 HK Hal Hrt
  cases hok : supOk g z with
  | false =>
    have Hok := Lib.hid hok
    clear hok
    go_wp2_with fail
    go_ret2
    exact ⟨.inl ⟨Hok.out, rfl⟩, HB2.out⟩
  | true =>
    have hok2 := hok
    unfold supOk at hok2
    simp only [Bool.and_eq_true, decide_eq_true_eq] at hok2
    obtain ⟨⟨⟨h1, h2⟩, h3⟩, h4⟩ := hok2
    have Hok := Lib.hid hok
    obtain ⟨gn, rfl⟩ : ∃ q : Nat, g = (q : Int) := ⟨g.toNat, by omega⟩
    obtain ⟨zn, rfl⟩ : ∃ q : Nat, z = (q : Int) := ⟨z.toNat, by omega⟩
    have HB3 := Lib.hid (blk_old HK2.out (.cells #[.slice none 0 0, .bool false] 93))
    have HW3 := Lib.hid (blk_of_alloc w2 (.cells #[.slice none 0 0, .bool false] 93))
    have Hb3 := Lib.hid (HB2.out.alloc HB2.out.size (.cells #[.slice none 0 0, .bool false] 93))
    have hs3 : (w2.alloc (.cells #[.slice none 0 0, .bool false] 93)).heap.size = w2.heap.size + 1 := World.size_alloc _ _
    have hbl : xb < w2.heap.size := blk_lt HK2.out
    obtain ⟨wb, hwb⟩ : ∃ o, o = w2.heap.size := ⟨_, rfl⟩
    have Hwb := Lib.hid hwb
    rw [← hwb] at HW3 hs3 hbl
    have HR3 : Hid (IsWr (w2.alloc (.cells #[.slice none 0 0, .bool false] 93)) (wb + 1) wb []) := Lib.hid ⟨⟨_, HW3.out, World.ownsRow_nil _ _ _ _⟩, Nat.lt_succ_self _, by rw [hs3]; exact Nat.le_refl _⟩
    have Hwle : Hid (w.heap.size ≤ wb) := Lib.hid (by rw [hwb]; exact HB2.out.size)
    have Hbl := Lib.hid hbl
    have hgn : gn < 9223372036854775808 := by omega
    have hzn : zn < 9223372036854775808 := by omega
    clear hwb hs3 HK2 HB2 hbl hok h1 h2 h3 h4
    go_upto_region 4 with fail
    rw [← Hwb.out]
    generalize w2.alloc (.cells #[.slice none 0 0, .bool false] 93) = W3 at *
    clear Hwb HW3
    have b0 := (cell_of_blk HB3.out 0).trans (show _ = some (.int .i64 (gn : Int)) from rfl)
    have b1 := (cell_of_blk HB3.out 1).trans (show _ = some (.int .i64 (zn : Int)) from rfl)
    have HR3d : Hid (IsWr W3.drew (wb + 1) wb []) := Lib.hid ⟨HR3.out.ex, HR3.out.lt, HR3.out.le⟩
    refine wp_region_held_drew (S := fun V' => Hid (Below wb W3 V')) (by kernel_rfl) (Lib.hid ((Below.refl _ _).drew)) (fun hS0 => ?_)
    refine wpAnyH_take (i := 0) (oi := { dst := some 8, op := Op.fieldAddr 49 (Operand.tmp 1) 0, type := 0, pos := "manifest.go:211", after := #[], guard := none }) (v := ?_) rfl (by kernel_rfl) (by kernel_rfl) (by kernel_rfl) (fun _ _ _ h => h) (Or.inl ⟨by rfl, ?hy1⟩) hS0 ?_
    case hy1 => (intro V hSw; (try dsimp only at hSw); clear hSw; go_simp; try with_reducible rfl)
    try simp only [Act.put, List.setIfInBounds_toArray, List.set_cons_zero, List.set_cons_succ]
    refine wpAnyH_take (i := 1) (oi := { dst := some 9, op := Op.load 3 (Operand.tmp 8), type := 3, pos := "manifest.go:211", after := #[{ on := 0, ground := Ground.data }], guard := none }) (v := ?_) rfl (by kernel_rfl) (by kernel_rfl) (by kernel_rfl) (fun _ _ _ h => h) (Or.inl ⟨by rfl, ?hy2⟩) hS0 ?_
    case hy2 => (intro V hSw; (try dsimp only at hSw); have q0 := (hSw.out.cell (p := ⟨xb, 0, none⟩) Hbl.out).trans b0; have q1 := (hSw.out.cell (p := ⟨xb, 1, none⟩) Hbl.out).trans b1; clear hSw; go_simp; try with_reducible rfl)
    try simp only [Act.put, List.setIfInBounds_toArray, List.set_cons_zero, List.set_cons_succ]
    refine wpAnyH_take (i := 3) (oi := { dst := some 11, op := Op.fieldAddr 49 (Operand.tmp 1) 1, type := 0, pos := "manifest.go:211", after := #[], guard := none }) (v := ?_) rfl (by kernel_rfl) (by kernel_rfl) (by kernel_rfl) (fun _ _ _ h => h) (Or.inl ⟨by rfl, ?hy3⟩) hS0 ?_
    case hy3 => (intro V hSw; (try dsimp only at hSw); clear hSw; go_simp; try with_reducible rfl)
    try simp only [Act.put, List.setIfInBounds_toArray, List.set_cons_zero, List.set_cons_succ]
    refine wpAnyH_take (i := 4) (oi := { dst := some 12, op := Op.load 3 (Operand.tmp 11), type := 3, pos := "manifest.go:211", after := #[{ on := 3, ground := Ground.data }], guard := none }) (v := ?_) rfl (by kernel_rfl) (by kernel_rfl) (by kernel_rfl) (fun _ _ _ h => h) (Or.inl ⟨by rfl, ?hy4⟩) hS0 ?_
    case hy4 => (intro V hSw; (try dsimp only at hSw); have q0 := (hSw.out.cell (p := ⟨xb, 0, none⟩) Hbl.out).trans b0; have q1 := (hSw.out.cell (p := ⟨xb, 1, none⟩) Hbl.out).trans b1; clear hSw; go_simp; try with_reducible rfl)
    try simp only [Act.put, List.setIfInBounds_toArray, List.set_cons_zero, List.set_cons_succ]
    refine wpAnyH_ready (rs := [2]) (by kernel_rfl) (by simp) (AllReadyH.cons rfl (fun K hK => ?_) AllReadyH.nil)
    go_simp
    refine (wnum_any _ (wb + 1) wb ([]) gn HR3d.out (by omega) (by simp)).mono ?_
    rintro e wv5 ⟨rfl, hw5, hv5, -⟩
    have hS5 := Lib.hid (hS0.out.trans hv5)
    have HWr5 := Lib.hid hw5
    clear hv5 hw5
    refine hK.out _ _ hS5 (fun _ => ?_)
    clear hK K
    try simp only [Act.put, List.setIfInBounds_toArray, List.set_cons_zero, List.set_cons_succ]
    refine wpAnyH_ready (rs := [5]) (by kernel_rfl) (by simp) (AllReadyH.cons rfl (fun K hK => ?_) AllReadyH.nil)
    go_simp
    refine (wnum_any _ (wb + 1) wb ([] ++ encN gn) zn HWr5.out (by omega) (by have h1 := encN_le gn; simp only [List.length_append, List.length_nil]; omega)).mono ?_
    rintro e wv6 ⟨rfl, hw6, hv6, -⟩
    have hS6 := Lib.hid (hS5.out.trans hv6)
    have HWr6 := Lib.hid hw6
    clear hv6 hw6
    refine hK.out _ _ hS6 (fun _ => ?_)
    clear hK K
    try simp only [Act.put, List.setIfInBounds_toArray, List.set_cons_zero, List.set_cons_succ]
    refine wpAnyH_ready (rs := [6]) (by kernel_rfl) (by simp) (AllReadyH.cons rfl (fun K hK => ?_) AllReadyH.nil)
    go_simp
    refine (wbytes_any _ (wb + 1) wb _ HWr6.out (by have h1 := encN_le gn; have h2 := encN_le zn; simp only [List.length_append, List.length_nil]; omega) (by have h1 := encN_pos gn; simp only [List.length_append, List.length_nil]; omega)).mono ?_
    rintro e wv7 ⟨v7, rfl, ho7, hv7⟩
    have hwb7 := Hb3.out.trans (hS6.out.mono Hwle.out)
    have HOf := Lib.hid (own_mono ho7 hwb7.size)
    have HBf := Lib.hid (hwb7.trans (hv7.mono hwb7.size))
    have hS7 := Lib.hid (hS6.out.trans (hv7.mono (Nat.le_of_lt (Nat.lt_of_lt_of_le HWr6.out.lt HWr6.out.le))))
    clear ho7 hv7 hwb7
    refine hK.out _ _ hS7 (fun _ => ?_)
    clear hK K
    try simp only [Act.put, List.setIfInBounds_toArray, List.set_cons_zero, List.set_cons_succ]
    refine wpAnyH_take (i := 7) (oi := { dst := some 15, op := Op.extract (Operand.tmp 14) 0, type := 34, pos := "manifest.go:211", after := #[{ on := 6, ground := Ground.data }], guard := none }) (v := ?_) rfl (by kernel_rfl) (by kernel_rfl) (by kernel_rfl) (fun _ _ _ h => h) (Or.inl ⟨by rfl, ?hy8⟩) hS7 ?_
    case hy8 => (intro V hSw; (try dsimp only at hSw); clear hSw; go_simp; try with_reducible rfl)
    try simp only [Act.put, List.setIfInBounds_toArray, List.set_cons_zero, List.set_cons_succ]
    refine wpAnyH_take (i := 8) (oi := { dst := some 16, op := Op.extract (Operand.tmp 14) 1, type := 35, pos := "manifest.go:211", after := #[{ on := 6, ground := Ground.data }], guard := none }) (v := ?_) rfl (by kernel_rfl) (by kernel_rfl) (by kernel_rfl) (fun _ _ _ h => h) (Or.inl ⟨by rfl, ?hy9⟩) hS7 ?_
    case hy9 => (intro V hSw; (try dsimp only at hSw); clear hSw; go_simp; try with_reducible rfl)
    try simp only [Act.put, List.setIfInBounds_toArray, List.set_cons_zero, List.set_cons_succ]
    refine wpAnyH_take (i := 9) (oi := { dst := some 2, op := Op.assign (Operand.tmp 15), type := 34, pos := "manifest.go:211", after := #[{ on := 7, ground := Ground.data }, { on := 6, ground := Ground.chain }, { on := 0, ground := Ground.phase }, { on := 1, ground := Ground.phase }, { on := 2, ground := Ground.phase }, { on := 3, ground := Ground.phase }, { on := 4, ground := Ground.phase }, { on := 5, ground := Ground.phase }, { on := 6, ground := Ground.phase }, { on := 7, ground := Ground.phase }, { on := 8, ground := Ground.phase }], guard := none }) (v := ?_) rfl (by kernel_rfl) (by kernel_rfl) (by kernel_rfl) (fun _ _ _ h => h) (Or.inl ⟨by rfl, ?hy10⟩) hS7 ?_
    case hy10 => (intro V hSw; (try dsimp only at hSw); clear hSw; go_simp; try with_reducible rfl)
    try simp only [Act.put, List.setIfInBounds_toArray, List.set_cons_zero, List.set_cons_succ]
    refine wpAnyH_ready (rs := [10]) (by kernel_rfl) (by simp) (AllReadyH.cons rfl (fun K hK => ?_) AllReadyH.nil)
    go_simp
    refine hK.out _ _ hS7 (fun _ => ?_)
    clear hK K
    try simp only [Act.put, List.setIfInBounds_toArray, List.set_cons_zero, List.set_cons_succ]
    refine wpAnyH_done (by kernel_rfl) ?_ _
    go_wp2_with fail
    go_ret2
    exact ⟨.inr ⟨Hok.out, _, rfl, by have := HOf.out; rw [List.nil_append] at this; exact this⟩, HBf.out⟩
def SupO (bs : List Nat) : Ending := match supP bs with
  | some x => .returned (.tuple #[.agg #[.int .i64 x.1, .int .i64 x.2], .int .i64 0])
  | none => .returned (.tuple #[.agg #[.int .i64 0, .int .i64 0], .int .i64 20])
theorem supO_yes {bs : List Nat} {x : Int × Int} (h : supP bs = some x) : SupO bs = .returned (.tuple #[.agg #[.int .i64 x.1, .int .i64 x.2], .int .i64 0]) := by unfold SupO; rw [h]
theorem supO_no {bs : List Nat} (h : supP bs = none) : SupO bs = .returned (.tuple #[.agg #[.int .i64 0, .int .i64 0], .int .i64 20]) := by unfold SupO; rw [h]
theorem set2 {V : World} {b : Nat} {t : TypeId} {a0 a1 : Value} (h : V.heap[b]? = some (.cells #[a0, a1] t (0, 0))) (x0 x1 : Value) : ((V.setCell ⟨b, 0, none⟩ x0).setCell ⟨b, 1, none⟩ x1).heap[b]? = some (.cells #[x0, x1] t (0, 0)) := by
  rw [blk_setCellR (blk_setCellR h)]; rfl
theorem set2_below {B : Nat} {w V : World} (h : Below B w V) {b : Nat} (hb : B ≤ b) (x0 x1 : Value) : Below B w ((V.setCell ⟨b, 0, none⟩ x0).setCell ⟨b, 1, none⟩ x1) :=
  Below.setCell (p := ⟨b, 1, none⟩) (Below.setCell (p := ⟨b, 0, none⟩) h hb _) hb _
set_option maxHeartbeats 3200000 in
theorem sparse_any (v : Value) (bs : List Nat) (w : World) (h : IsBs w v bs) (hb : ∀ x ∈ bs, x < 256) (hl : bs.length ≤ 100000) :
    Calls Try.prog 21 #[v] w fun e w' => e = SupO bs ∧ Below w.heap.size w w' := by
  obtain ⟨ob, hob⟩ : ∃ q, q = w.heap.size := ⟨_, rfl⟩
  have hA : Below w.heap.size w (w.alloc (.cells #[.int .i64 0, .int .i64 0] 49)) := (Below.refl _ _).alloc (Nat.le_refl _) _
  have HK := Lib.hid (blk_of_alloc w (.cells #[.int .i64 0, .int .i64 0] 49))
  have Hnr := Lib.hid (newreader_bs v bs _ (h.below hA) (by omega))
  obtain ⟨⟨n1, cs1, bd1⟩, hp1⟩ : ∃ p, p = numB false bs := ⟨_, rfl⟩
  obtain ⟨⟨n2, cs2, bd2⟩, hp2⟩ : ∃ p, p = numB bd1 cs1 := ⟨_, rfl⟩
  have hsp : supP bs = if (!bd2 && cs2.isEmpty) && supOk n1 n2 then some ((n1 : Int), (n2 : Int)) else none := by
    unfold supP
    dsimp only
    rw [← hp1]
    dsimp only
    rw [← hp2]
  have Hl1 : Hid (∀ x ∈ cs1, x < 256) := Lib.hid (fun x hx => hb x (numB_sub false bs x (by rw [← hp1]; exact hx)))
  have Hsp := Lib.hid hsp
  have HA := Lib.hid hA
  have Hob := Lib.hid hob
  have Hlt := Lib.hid hb
  have Hp1 := Lib.hid hp1
  have Hp2 := Lib.hid hp2
  obtain ⟨a, c, rfl, -, -, -⟩ := id h
  obtain ⟨bn, hbn⟩ : ∃ q, q = bs.length := ⟨_, rfl⟩
  rw [← hbn] at Hnr ⊢
  rw [← hob] at HK
  obtain ⟨SO, hSO⟩ : ∃ q, q = SupO bs := ⟨_, rfl⟩
  have HSO := Lib.hid hSO
  rw [← hSO]
  clear hA h hb hl hob hbn hp1 hp2 hsp hSO
  go_enter Try.func21, Try.ntmps21
  go_upto_region 1 with fail
  rw [← Hob.out]
  generalize w.alloc (.cells #[.int .i64 0, .int .i64 0] 49) = Wa at *
  go_wp2_with fail
  refine Hnr.out.mono ?_
  rintro e wr0 ⟨w0, rb, rfl, hrd, hrb, hbel⟩
  have hx1 : Below wr0.heap.size wr0 (wr0.alloc (.cells #[.int .i64 0, .int .i64 0] 49)) := (Below.refl _ _).alloc (Nat.le_refl _) _
  have HX := Lib.hid (blk_of_alloc wr0 (.cells #[.int .i64 0, .int .i64 0] 49))
  have Hrd := Lib.hid (hrd.below2 hx1)
  have hrl : rb < wr0.heap.size := by obtain ⟨v, hv, -⟩ := hrd.ex; exact blk_lt hv
  have HO := Lib.hid (blk_bels hx1 (blk_bels hbel HK.out))
  have HB := Lib.hid (HA.out.trans ((hbel.trans (hx1.mono hbel.size)).mono HA.out.size))
  obtain ⟨xb, hxb⟩ : ∃ q, q = wr0.heap.size := ⟨_, rfl⟩
  have Hxb := Lib.hid hxb
  have Hne : Hid (rb ≠ xb ∧ ob ≠ xb ∧ ob ≠ rb ∧ w0.heap.size ≤ xb ∧ w.heap.size ≤ xb ∧ w.heap.size ≤ rb) := Lib.hid (by have h1 := hrd.below.size; have h2 := HA.out.size; have h3 := blk_lt HK.out; have h4 := hbel.size; omega)
  rw [← hxb] at HX
  clear hrd hrb hbel hx1 hrl hxb Hnr HA HK
  go_upto_region 3 with fail
  rw [← Hxb.out]
  generalize wr0.alloc (.cells #[.int .i64 0, .int .i64 0] 49) = W at *
  clear Hxb
  have Hn1 := Lib.hid (num_any w0 W rb bs false Hrd.out Hlt.out)
  rw [← Hp1.out] at Hn1
  dsimp only at Hn1
  go_wp2_with fail
  refine Hn1.out.mono ?_
  rintro e w1 ⟨rfl, hrd1, hg1⟩
  have hX1 := (hg1.block xb (blk_lt HX.out) (fun e => Hne.out.1 (by injection e with e; exact e.symm))).trans HX.out
  have hO1 := (hg1.block ob (blk_lt HO.out) (fun e => Hne.out.2.2.1 (by injection e))).trans HO.out
  have hB1 := HB.out.trans ((Below.refl _ _).grown hg1 HB.out.size (fun k e => by injection e with e; subst e; exact Hne.out.2.2.2.2.2))
  have tf := frozen_blkR hX1 0
  have tc : w1.cell? ⟨xb, 0, none⟩ = some (.int .i64 0) := by rw [cell_blkR hX1]; rfl
  have HX2 : Hid ((w1.setCell ⟨xb, 0, none⟩ (.int .i64 (n1 : Int))).heap[xb]? = some (.cells #[.int .i64 (n1 : Int), .int .i64 0] 49 (0, 0))) := Lib.hid (by rw [blk_setCellR hX1]; rfl)
  have HO2 := Lib.hid ((Below.heap_setCell w1 ⟨xb, 0, none⟩ (.int .i64 (n1 : Int)) ob Hne.out.2.1).trans hO1)
  have HB2 := Lib.hid (Below.setCell (p := ⟨xb, 0, none⟩) hB1 Hne.out.2.2.2.2.1 (.int .i64 (n1 : Int)))
  have Hrd2 := Lib.hid (hrd1.other (grown_setCellR w1 xb 0 (.int .i64 (n1 : Int))) Hne.out.1 Hne.out.2.2.2.1)
  clear hrd1 hg1 hX1 hO1 hB1 Hn1
  go_upto_region 4 with fail
  generalize w1.setCell ⟨xb, 0, none⟩ (.int .i64 (n1 : Int)) = W2 at *
  clear tf tc
  have Hn2 := Lib.hid (num_any w0 W2 rb cs1 bd1 Hrd2.out Hl1.out)
  rw [← Hp2.out] at Hn2
  dsimp only at Hn2
  go_wp2_with fail
  refine Hn2.out.mono ?_
  rintro e w3 ⟨rfl, hrd3, hg3⟩
  have hX3 := (hg3.block xb (blk_lt HX2.out) (fun e => Hne.out.1 (by injection e with e; exact e.symm))).trans HX2.out
  have hO3 := (hg3.block ob (blk_lt HO2.out) (fun e => Hne.out.2.2.1 (by injection e))).trans HO2.out
  have hB3 := HB2.out.trans ((Below.refl _ _).grown hg3 HB2.out.size (fun k e => by injection e with e; subst e; exact Hne.out.2.2.2.2.2))
  have tf := frozen_blkR hX3 1
  have tc : w3.cell? ⟨xb, 1, none⟩ = some (.int .i64 0) := by rw [cell_blkR hX3]; rfl
  have HX4 : Hid ((w3.setCell ⟨xb, 1, none⟩ (.int .i64 (n2 : Int))).heap[xb]? = some (.cells #[.int .i64 (n1 : Int), .int .i64 (n2 : Int)] 49 (0, 0))) := Lib.hid (by rw [blk_setCellR hX3]; rfl)
  have HO4 := Lib.hid ((Below.heap_setCell w3 ⟨xb, 1, none⟩ (.int .i64 (n2 : Int)) ob Hne.out.2.1).trans hO3)
  have HB4 := Lib.hid (Below.setCell (p := ⟨xb, 1, none⟩) hB3 Hne.out.2.2.2.2.1 (.int .i64 (n2 : Int)))
  have Hrd4 := Lib.hid (hrd3.other (grown_setCellR w3 xb 1 (.int .i64 (n2 : Int))) Hne.out.1 Hne.out.2.2.2.1)
  clear hrd3 hg3 hX3 hO3 hB3 Hn2
  go_upto_region 5 with fail
  generalize w3.setCell ⟨xb, 1, none⟩ (.int .i64 (n2 : Int)) = W4 at *
  clear tf tc HX HO HB Hrd HX2 HO2 HB2 Hrd2
  have Hdn := Lib.hid (done_any w0 W4 rb cs2 bd2 Hrd4.out)
  obtain ⟨dc, hdc⟩ : ∃ q, q = (!bd2 && cs2.isEmpty) := ⟨_, rfl⟩
  rw [← hdc] at Hdn Hsp
  clear hdc
  have x0 : W4.cell? ⟨xb, 0, none⟩ = some (.int .i64 (n1 : Int)) := by rw [cell_blkR HX4.out]; rfl
  have x1 : W4.cell? ⟨xb, 1, none⟩ = some (.int .i64 (n2 : Int)) := by rw [cell_blkR HX4.out]; rfl
  have Hrt := Lib.hid (sright_any n1 n2 W4)
  cases dc with
  | false =>
    have Hd : Hid (Calls Try.prog 46 #[.pointer (some ⟨rb, 0, none⟩)] W4 fun e w' => e = .returned (.int .i64 20) ∧ w' = W4) := Hdn
    have Hno : Hid (supP bs = none) := Lib.hid (by rw [Hsp.out]; rfl)
    clear Hdn
    go_wp2_with fail
    refine Hd.out.mono ?_
    rintro e w5 ⟨rfl, rfl⟩
    have hobx := HO4.out
    have Hres := Lib.hid (set2 hobx (.int .i64 0) (.int .i64 0))
    have HBf := Lib.hid (set2_below HB4.out (show w.heap.size ≤ ob by rw [Hob.out]; exact Nat.le_refl _) (.int .i64 0) (.int .i64 0))
    have t0 := frozen_blkR hobx 0
    have t1 := frozen_blkR hobx 1
    have y0 : w5.cell? ⟨ob, 0, none⟩ = some (.int .i64 0) := by rw [cell_blkR hobx]; rfl
    have y1 : w5.cell? ⟨ob, 1, none⟩ = some (.int .i64 0) := by rw [cell_blkR hobx]; rfl
    clear hobx
    go_wp2_with fail
    refine bodyPost_ret (v := .tuple #[.agg #[.int .i64 0, .int .i64 0], .int .i64 20]) ?_ rfl ⟨by rw [HSO.out, supO_no Hno.out], HBf.out⟩
    have hres := Hres.out
    have z0 := cell_blkR hres 0
    have z1 := cell_blkR hres 1
    simp only [List.getElem?_toArray, List.getElem?_cons_zero, List.getElem?_cons_succ] at z0 z1
    generalize (w5.setCell ⟨ob, 0, none⟩ (.int .i64 0)).setCell ⟨ob, 1, none⟩ (.int .i64 0) = F at *
    simp [results, Try.results21, go_sem, z0, z1]
  | true =>
    have Hd : Hid (Calls Try.prog 46 #[.pointer (some ⟨rb, 0, none⟩)] W4 fun e w' => e = .returned (.int .i64 0) ∧ w' = W4) := Hdn
    clear Hdn
    cases hok : supOk n1 n2 with
    | false =>
      rw [hok] at Hrt
      have Hno : Hid (supP bs = none) := Lib.hid (by rw [Hsp.out, hok]; rfl)
      clear hok
      go_wp2_with fail
      refine Hd.out.mono ?_
      rintro e w5 ⟨rfl, rfl⟩
      go_wp2_with fail
      refine Hrt.out.mono ?_
      rintro e w6 ⟨rfl, hb6⟩
      have HO6 := Lib.hid (blk_bels hb6 HO4.out)
      have HB6 := Lib.hid (HB4.out.trans (hb6.mono HB4.out.size))
      clear hb6 x0 x1
      have hobx := HO6.out
      have Hres := Lib.hid (set2 hobx (.int .i64 0) (.int .i64 0))
      have HBf := Lib.hid (set2_below HB6.out (show w.heap.size ≤ ob by rw [Hob.out]; exact Nat.le_refl _) (.int .i64 0) (.int .i64 0))
      have t0 := frozen_blkR hobx 0
      have t1 := frozen_blkR hobx 1
      have y0 : w6.cell? ⟨ob, 0, none⟩ = some (.int .i64 0) := by rw [cell_blkR hobx]; rfl
      have y1 : w6.cell? ⟨ob, 1, none⟩ = some (.int .i64 0) := by rw [cell_blkR hobx]; rfl
      clear hobx
      go_wp2_with fail
      refine bodyPost_ret (v := .tuple #[.agg #[.int .i64 0, .int .i64 0], .int .i64 20]) ?_ rfl ⟨by rw [HSO.out, supO_no Hno.out], HBf.out⟩
      have hres := Hres.out
      have z0 := cell_blkR hres 0
      have z1 := cell_blkR hres 1
      simp only [List.getElem?_toArray, List.getElem?_cons_zero, List.getElem?_cons_succ] at z0 z1
      generalize (w6.setCell ⟨ob, 0, none⟩ (.int .i64 0)).setCell ⟨ob, 1, none⟩ (.int .i64 0) = F at *
      simp [results, Try.results21, go_sem, z0, z1]
    | true =>
      rw [hok] at Hrt
      have Hyes : Hid (supP bs = some ((n1 : Int), (n2 : Int))) := Lib.hid (by rw [Hsp.out, hok]; rfl)
      clear hok
      go_wp2_with fail
      refine Hd.out.mono ?_
      rintro e w5 ⟨rfl, rfl⟩
      go_wp2_with fail
      refine Hrt.out.mono ?_
      rintro e w6 ⟨rfl, hb6⟩
      have HO6 := Lib.hid (blk_bels hb6 HO4.out)
      have HB6 := Lib.hid (HB4.out.trans (hb6.mono HB4.out.size))
      have hx6 := blk_bels hb6 HX4.out
      have q0 : w6.cell? ⟨xb, 0, none⟩ = some (.int .i64 (n1 : Int)) := by rw [cell_blkR hx6]; rfl
      have q1 : w6.cell? ⟨xb, 1, none⟩ = some (.int .i64 (n2 : Int)) := by rw [cell_blkR hx6]; rfl
      clear hb6 hx6 x0 x1
      have hobx := HO6.out
      have Hres := Lib.hid (set2 hobx (.int .i64 (n1 : Int)) (.int .i64 (n2 : Int)))
      have HBf := Lib.hid (set2_below HB6.out (show w.heap.size ≤ ob by rw [Hob.out]; exact Nat.le_refl _) (.int .i64 (n1 : Int)) (.int .i64 (n2 : Int)))
      have t0 := frozen_blkR hobx 0
      have t1 := frozen_blkR hobx 1
      have y0 : w6.cell? ⟨ob, 0, none⟩ = some (.int .i64 0) := by rw [cell_blkR hobx]; rfl
      have y1 : w6.cell? ⟨ob, 1, none⟩ = some (.int .i64 0) := by rw [cell_blkR hobx]; rfl
      clear hobx
      go_wp2_with fail
      refine bodyPost_ret (v := .tuple #[.agg #[.int .i64 (n1 : Int), .int .i64 (n2 : Int)], .int .i64 0]) ?_ rfl ⟨by rw [HSO.out, supO_yes Hyes.out], HBf.out⟩
      have hres := Hres.out
      have z0 := cell_blkR hres 0
      have z1 := cell_blkR hres 1
      simp only [List.getElem?_toArray, List.getElem?_cons_zero, List.getElem?_cons_succ] at z0 z1
      generalize (w6.setCell ⟨ob, 0, none⟩ (.int .i64 (n1 : Int))).setCell ⟨ob, 1, none⟩ (.int .i64 (n2 : Int)) = F at *
      simp [results, Try.results21, go_sem, z0, z1]
/-- the newest of some -/
def newS (b : Int × Int) (bs : List Nat) : Int × Int := match supP bs with
  | some x => if b.1 ≤ x.1 then x else b
  | none => b
set_option maxHeartbeats 3200000 in
theorem newest_any (v : Value) (l : List (Value × List Nat)) (w : World) (h : IsBB w v l) :
    Calls Try.prog 22 #[v] w fun e w' => e = .returned (.tuple #[.agg #[.int .i64 (((l.map (·.2)).foldl newS (0, 0)).1), .int .i64 (((l.map (·.2)).foldl newS (0, 0)).2)], .bool (decide (0 < ((l.map (·.2)).foldl newS (0, 0)).1))]) ∧ Below w.heap.size w w' := by
  obtain ⟨a, c, rfl, -, -, -⟩ := id h.1
  obtain ⟨-, hcn, hcm, hx⟩ := h.1.at
  obtain ⟨n, hn⟩ : ∃ q, q = l.length := ⟨_, rfl⟩
  rw [← hn] at hx hcn ⊢
  have Hn := Lib.hid hn
  have Hx := Lib.hid hx
  have Hbb := Lib.hid h.2
  obtain ⟨fin, hfin⟩ : ∃ q, q = (l.map (·.2)).foldl newS (0, 0) := ⟨_, rfl⟩
  have Hfin := Lib.hid hfin
  rw [← hfin]
  obtain ⟨fb, hfb⟩ : ∃ q, q = decide (0 < fin.1) := ⟨_, rfl⟩
  have Hfb := Lib.hid hfb
  rw [← hfb]
  clear hn hx h hfin hfb
  go_enter Try.func22, Try.ntmps22
  go_upto_region 2 with fail
  have hA1 : Below w.heap.size w (w.alloc (.cells #[.int .i64 0, .int .i64 0] 49)) := (Below.refl _ _).alloc (Nat.le_refl _) _
  have hK1 := blk_of_alloc w (.cells #[.int .i64 0, .int .i64 0] 49)
  obtain ⟨Wa, hWa⟩ : ∃ q : World, q = w.alloc (.cells #[.int .i64 0, .int .i64 0] 49) := ⟨_, rfl⟩
  have hs1 : Wa.heap.size = w.heap.size + 1 := by rw [hWa, World.size_alloc]
  rw [← hWa] at hA1 hK1 ⊢
  have hA2 : Below Wa.heap.size Wa (Wa.alloc (.cells #[.int .i64 0, .int .i64 0] 49)) := (Below.refl _ _).alloc (Nat.le_refl _) _
  have hK2 := blk_of_alloc Wa (.cells #[.int .i64 0, .int .i64 0] 49)
  rw [hs1] at hK2
  have HO := Lib.hid (blk_bels hA2 hK1)
  have HS := Lib.hid hK2
  have HB := Lib.hid (hA1.trans (hA2.mono hA1.size))
  obtain ⟨bb, hbb⟩ : ∃ q, q = w.heap.size + 1 := ⟨_, rfl⟩
  obtain ⟨ob, hob⟩ : ∃ q, q = w.heap.size := ⟨_, rfl⟩
  rw [← hbb] at HS ⊢
  rw [← hob] at HO ⊢
  have Hob : Hid (ob = w.heap.size ∧ bb = w.heap.size + 1) := Lib.hid ⟨hob, hbb⟩
  clear hA1 hK1 hWa hs1 hA2 hK2 hbb hob
  generalize Wa.alloc (.cells #[.int .i64 0, .int .i64 0] 49) = W at *
  go_wp2_with fail
  go_loopw [11] (fun iv wr => ∃ (k : Nat) (b1 b2 : Int), k ≤ n ∧ iv = .int .i64 k ∧ ((l.map (·.2)).take k).foldl newS (0, 0) = (b1, b2) ∧ wr.heap[bb]? = some (.cells #[.int .i64 b1, .int .i64 b2] 49 (0, 0)) ∧ Below w.heap.size w wr ∧ wr.heap[ob]? = some (.cells #[.int .i64 0, .int .i64 0] 49 (0, 0))) (fun i _ => n - (intOf i).toNat)
  case atStart => exact ⟨0, 0, 0, Nat.zero_le _, rfl, rfl, HS.out, HB.out, HO.out⟩
  case round =>
    clear HS HO HB
    obtain ⟨wo, rfl⟩ : ∃ wo : World, wo = wr := ⟨_, rfl⟩
    obtain ⟨k, b1, b2, hk, rfl, hf, hs, hb, ho⟩ := hrel
    have Hf := Lib.hid hf
    have Hs := Lib.hid hs
    have Hb := Lib.hid hb
    have Ho := Lib.hid ho
    clear hf hs hb ho
    by_cases hkn : k < n
    · obtain ⟨be, off, rfl, hcell⟩ := Hx.out (by omega)
      obtain ⟨⟨bv, bs⟩, hbk⟩ : ∃ x, l[k]? = some x := ⟨_, List.getElem?_eq_getElem (by rw [← Hn.out]; exact hkn)⟩
      have c0 := hcell k _ hbk 0 _ rfl
      rw [Nat.mul_one, Nat.add_zero] at c0
      have d0 := (Hb.out.cell (block_lt_of_cell c0)).trans c0
      obtain ⟨hbs, hb256, hblen⟩ := Hbb.out _ (List.mem_of_getElem? hbk)
      dsimp only at hbs hb256 hblen d0
      have hf2 : ((l.map (·.2)).take (k + 1)).foldl newS (0, 0) = newS (b1, b2) bs := by
        have hkl : k < (l.map (·.2)).length := by rw [List.length_map, ← Hn.out]; exact hkn
        rw [List.take_succ_eq_append_getElem hkl, List.foldl_append, Hf.out, List.getElem_map, (List.getElem?_eq_some_iff.1 hbk).2]
        rfl
      have Hf2 := Lib.hid hf2
      have hbsw := hbs.below Hb.out
      obtain ⟨ba, bc, rfl, -, -, -⟩ := id hbsw
      obtain ⟨bn, hbn⟩ : ∃ q, q = bs.length := ⟨_, rfl⟩
      rw [← hbn] at d0 hbsw
      have hpa := sparse_any _ bs wo hbsw hb256 hblen
      cases hq : supP bs with
      | none =>
        rw [supO_no hq] at hpa
        have Hpa := Lib.hid hpa
        have Hf3 : Hid (((l.map (·.2)).take (k + 1)).foldl newS (0, 0) = (b1, b2)) := Lib.hid (by rw [Hf2.out]; unfold newS; rw [hq])
        clear hcell hbk c0 hbs hb256 hblen hf2 hbsw hbn hpa hq
        go_wp2_with fail
        refine Hpa.out.mono ?_
        rintro e w2 ⟨rfl, hb2⟩
        have hA : Below w2.heap.size w2 (w2.alloc (.cells #[.int .i64 0, .int .i64 0] 49)) := (Below.refl _ _).alloc (Nat.le_refl _) _
        have HS2 := Lib.hid (blk_bels hA (blk_bels hb2 Hs.out))
        have HO2 := Lib.hid (blk_bels hA (blk_bels hb2 Ho.out))
        have HB2 := Lib.hid (Hb.out.trans ((hb2.trans (hA.mono hb2.size)).mono Hb.out.size))
        clear hb2 hA d0 Hpa
        go_upto_region 6 with fail
        generalize w2.alloc (.cells #[.int .i64 0, .int .i64 0] 49) = W2 at *
        go_wp2_with fail
        go_roundw
        case rel => exact ⟨k + 1, b1, b2, by omega, by go_num, Hf3.out, HS2.out, HB2.out, HO2.out⟩
        case measure => simp [intOf]; omega
      | some x =>
        obtain ⟨x1, x2⟩ := x
        rw [supO_yes hq] at hpa
        have Hpa := Lib.hid hpa
        have Hf3 : Hid (((l.map (·.2)).take (k + 1)).foldl newS (0, 0) = if b1 ≤ x1 then (x1, x2) else (b1, b2)) := Lib.hid (by rw [Hf2.out]; unfold newS; rw [hq])
        clear hcell hbk c0 hbs hb256 hblen hf2 hbsw hbn hpa hq
        go_wp2_with fail
        refine Hpa.out.mono ?_
        rintro e w2 ⟨rfl, hb2⟩
        have hA : Below w2.heap.size w2 (w2.alloc (.cells #[.int .i64 x1, .int .i64 x2] 49)) := (Below.refl _ _).alloc (Nat.le_refl _) _
        have HX2 := Lib.hid (blk_of_alloc w2 (.cells #[.int .i64 x1, .int .i64 x2] 49))
        have HS2 := Lib.hid (blk_bels hA (blk_bels hb2 Hs.out))
        have HO2 := Lib.hid (blk_bels hA (blk_bels hb2 Ho.out))
        have HB2 := Lib.hid (Hb.out.trans ((hb2.trans (hA.mono hb2.size)).mono Hb.out.size))
        obtain ⟨xb, hxb⟩ : ∃ q, q = w2.heap.size := ⟨_, rfl⟩
        have Hxb := Lib.hid hxb
        rw [← hxb] at HX2
        clear hb2 hA d0 Hpa hxb
        go_upto_region 6 with fail
        rw [← Hxb.out]
        generalize w2.alloc (.cells #[.int .i64 x1, .int .i64 x2] 49) = W2 at *
        have q0 : W2.cell? ⟨xb, 0, none⟩ = some (.int .i64 x1) := by rw [cell_blkR HX2.out]; rfl
        have q1 : W2.cell? ⟨xb, 1, none⟩ = some (.int .i64 x2) := by rw [cell_blkR HX2.out]; rfl
        have r0 : W2.cell? ⟨bb, 0, none⟩ = some (.int .i64 b1) := by rw [cell_blkR HS2.out]; rfl
        have r1 : W2.cell? ⟨bb, 1, none⟩ = some (.int .i64 b2) := by rw [cell_blkR HS2.out]; rfl
        have t0 := frozen_blkR HS2.out 0
        have t1 := frozen_blkR HS2.out 1
        clear Hxb
        by_cases hle : b1 ≤ x1
        · have hd : decide (x1 ≥ b1) = true := decide_eq_true hle
          have hd2 : decide (b1 ≤ x1) = true := decide_eq_true hle
          have Hset := Lib.hid (set2 HS2.out (.int .i64 x1) (.int .i64 x2))
          have Hos := Lib.hid ((Below.heap_setCell _ ⟨bb, 1, none⟩ (.int .i64 x2) ob (by have := Hob.out; show ob ≠ bb; omega)).trans ((Below.heap_setCell W2 ⟨bb, 0, none⟩ (.int .i64 x1) ob (by have := Hob.out; show ob ≠ bb; omega)).trans HO2.out))
          have Hbs := Lib.hid (set2_below HB2.out (show w.heap.size ≤ bb by have := Hob.out; omega) (.int .i64 x1) (.int .i64 x2))
          have Hf4 : Hid (((l.map (·.2)).take (k + 1)).foldl newS (0, 0) = (x1, x2)) := Lib.hid (by rw [Hf3.out, if_pos hle])
          go_wp2_with fail
          go_roundw
          case rel => exact ⟨k + 1, x1, x2, by omega, by go_num, Hf4.out, Hset.out, Hbs.out, Hos.out⟩
          case measure => simp [intOf]; omega
        · have hd : decide (x1 ≥ b1) = false := decide_eq_false hle
          have hd2 : decide (b1 ≤ x1) = false := decide_eq_false hle
          have Hf4 : Hid (((l.map (·.2)).take (k + 1)).foldl newS (0, 0) = (b1, b2)) := Lib.hid (by rw [Hf3.out, if_neg hle])
          go_wp2_with fail
          go_roundw
          case rel => exact ⟨k + 1, b1, b2, by omega, by go_num, Hf4.out, HS2.out, HB2.out, HO2.out⟩
          case measure => simp [intOf]; omega
    · obtain rfl : k = n := by omega
      have hfe : fin = (b1, b2) := by
        rw [Hfin.out, ← Hf.out, List.take_of_length_le (by rw [List.length_map, ← Hn.out]; exact Nat.le_refl _)]
      subst hfe
      have Hfb2 : Hid (fb = decide (b1 > 0)) := Hfb
      have hobx := Ho.out
      have Hres := Lib.hid (set2 hobx (.int .i64 b1) (.int .i64 b2))
      have HBf := Lib.hid (set2_below Hb.out (show w.heap.size ≤ ob by have := Hob.out; omega) (.int .i64 b1) (.int .i64 b2))
      have t0 := frozen_blkR hobx 0
      have t1 := frozen_blkR hobx 1
      have y0 : wo.cell? ⟨ob, 0, none⟩ = some (.int .i64 0) := by rw [cell_blkR hobx]; rfl
      have y1 : wo.cell? ⟨ob, 1, none⟩ = some (.int .i64 0) := by rw [cell_blkR hobx]; rfl
      clear hobx
      have HBf2 := Lib.hid (set2_below (Hb.out.drew) (show w.heap.size ≤ ob by have := Hob.out; omega) (.int .i64 b1) (.int .i64 b2))
      have Hobb : Hid (ob ≠ bb) := Lib.hid (by have := Hob.out; omega)
      go_upto_region 9 with fail
      refine wp_region_held_drew (S := fun V' => V'.heap[bb]? = some (.cells #[.int .i64 b1, .int .i64 b2] 49 (0, 0))) (by kernel_rfl) Hs.out (fun hS0 => ?_)
      refine wpAnyH_take (i := 0) (oi := { dst := some 31, op := Op.load 49 (Operand.tmp 4), type := 49, pos := "manifest.go:234", after := #[], guard := none }) (v := ?_) rfl (by kernel_rfl) (by kernel_rfl) (by kernel_rfl) (fun _ _ _ h => h) (Or.inl ⟨by rfl, ?hy11⟩) hS0 ?_
      case hy11 => (intro V hSw; (try dsimp only at hSw); have q0 := cell_of_blk hSw 0; have q1 := cell_of_blk hSw 1; clear hSw; go_simp; try with_reducible rfl)
      try simp only [Act.put, List.setIfInBounds_toArray, List.set_cons_zero, List.set_cons_succ]
      refine wpAnyH_take (i := 1) (oi := { dst := some 32, op := Op.fieldAddr 49 (Operand.tmp 4) 0, type := 0, pos := "manifest.go:234", after := #[{ on := 4, ground := Ground.gcOnly Departure.lateStores }], guard := none }) (v := ?_) rfl (by kernel_rfl) (by kernel_rfl) (by kernel_rfl) (fun _ _ _ h => h) (Or.inl ⟨by rfl, ?hy12⟩) hS0 ?_
      case hy12 => (intro V hSw; (try dsimp only at hSw); clear hSw; go_simp; try with_reducible rfl)
      try simp only [Act.put, List.setIfInBounds_toArray, List.set_cons_zero, List.set_cons_succ]
      refine wpAnyH_take (i := 2) (oi := { dst := some 33, op := Op.load 3 (Operand.tmp 32), type := 3, pos := "manifest.go:234", after := #[{ on := 1, ground := Ground.data }, { on := 4, ground := Ground.gcOnly Departure.lateStores }], guard := none }) (v := ?_) rfl (by kernel_rfl) (by kernel_rfl) (by kernel_rfl) (fun _ _ _ h => h) (Or.inl ⟨by rfl, ?hy13⟩) hS0 ?_
      case hy13 => (intro V hSw; (try dsimp only at hSw); have q0 := cell_of_blk hSw 0; have q1 := cell_of_blk hSw 1; clear hSw; go_simp; try with_reducible rfl)
      try simp only [Act.put, List.setIfInBounds_toArray, List.set_cons_zero, List.set_cons_succ]
      refine wpAnyH_take (i := 3) (oi := { dst := some 34, op := Op.binOp BinOp.gtr 3 (Operand.tmp 33) (Operand.const (Value.int IntKind.i64 0)) 3, type := 4, pos := "manifest.go:234", after := #[{ on := 2, ground := Ground.data }, { on := 4, ground := Ground.gcOnly Departure.lateStores }], guard := none }) (v := ?_) rfl (by kernel_rfl) (by kernel_rfl) (by kernel_rfl) (fun _ _ _ h => h) (Or.inl ⟨by rfl, ?hy14⟩) hS0 ?_
      case hy14 => (intro V hSw; (try dsimp only at hSw); clear hSw; go_simp; try with_reducible rfl)
      try simp only [Act.put, List.setIfInBounds_toArray, List.set_cons_zero, List.set_cons_succ]
      refine wpAnyH_ready (rs := [4]) (by kernel_rfl) (by simp) (AllReadyH.cons rfl (fun K hK => ?_) AllReadyH.nil)
      have hob9 : wo.drew.heap[ob]? = some (.cells #[.int .i64 0, .int .i64 0] 49 (0, 0)) := Ho.out
      have t0 := frozen_blkR hob9 0
      have t1 := frozen_blkR hob9 1
      have y0 : wo.drew.cell? ⟨ob, 0, none⟩ = some (.int .i64 0) := by rw [cell_blkR hob9]; rfl
      have y1 : wo.drew.cell? ⟨ob, 1, none⟩ = some (.int .i64 0) := by rw [cell_blkR hob9]; rfl
      have Hr9 := Lib.hid (set2 hob9 (.int .i64 b1) (.int .i64 b2))
      have hS9 := (Below.heap_setCell _ ⟨ob, 1, none⟩ (.int .i64 b2) bb (by have := Hobb.out; show bb ≠ ob; omega)).trans ((Below.heap_setCell wo.drew ⟨ob, 0, none⟩ (.int .i64 b1) bb (by have := Hobb.out; show bb ≠ ob; omega)).trans hS0)
      clear hob9
      go_simp
      refine hK.out _ _ hS9 (fun _ => ?_)
      clear hK K
      try simp only [Act.put, List.setIfInBounds_toArray, List.set_cons_zero, List.set_cons_succ]
      refine wpAnyH_ready (rs := [5]) (by kernel_rfl) (by simp) (AllReadyH.cons rfl (fun K hK => ?_) AllReadyH.nil)
      go_simp
      refine hK.out _ _ hS9 (fun _ => ?_)
      clear hK K
      try simp only [Act.put, List.setIfInBounds_toArray, List.set_cons_zero, List.set_cons_succ]
      refine wpAnyH_done (by kernel_rfl) ?_ _
      go_wp2_with fail
      refine bodyPost_ret (v := .tuple #[.agg #[.int .i64 b1, .int .i64 b2], .bool (decide (0 < b1))]) ?_ rfl ⟨by rw [Hfb.out], HBf2.out⟩
      have z0 : (wo.setCell ⟨ob, 0, none⟩ (.int .i64 b1)).cell? ⟨ob, 0, none⟩ = some (.int .i64 b1) := by rw [cell_blkR (blk_setCellR Ho.out)]; rfl
      have z1 : ((wo.setCell ⟨ob, 0, none⟩ (.int .i64 b1)).setCell ⟨ob, 1, none⟩ (.int .i64 b2)).cell? ⟨ob, 1, none⟩ = some (.int .i64 b2) := by rw [cell_blkR (blk_setCellR (blk_setCellR Ho.out))]; rfl
      simp [results, Try.results22, go_sem, z0, z1]
end Go.Proofs.Ythjjelomlgmllaa.Tithe
