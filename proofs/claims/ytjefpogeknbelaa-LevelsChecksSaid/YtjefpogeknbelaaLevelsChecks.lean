/- The law LevelsChecks, walked. -/
import Derived.Test.YtjefpogeknbelaaLevAwake
import Derived.Test.YtjefpogeknbelaaLevTurn
namespace Go.Proofs.Ytjefpogeknbelaa.Tithe
open Go.RowKit Go.Sort Go.Shelf
set_option linter.unusedVariables false
set_option linter.unusedSimpArgs false
set_option maxRecDepth 100000
set_option maxHeartbeats 1600000 in
theorem checks_big (z n : Int) (a b : Ky) (va : Option Addr) (m c : Nat) (u : ByteArray) (w : World) (hb : 60 < m ∨ 300 < a.u.size ∨ 300 < b.u.size ∨ 300 < u.size) :
    Calls Try.prog 3 #[metaV z n a b (.slice va m c), .string u] w fun e w' => e = .returned (.bool true) ∧ Below w.heap.size w w' := by
  have hs : Below w.heap.size w (w.alloc (.cells #[.int .i64 z, .int .i64 n, .string a.u, .int .i64 a.s, .int .i64 a.k, .string b.u, .int .i64 b.s, .int .i64 b.k, .slice va m c] 26)) := (Below.refl _ _).alloc (Nat.le_refl _) _
  unfold metaV
  by_cases h1 : 60 < m
  · clear hb
    go_enter Try.func3, Try.ntmps3
    go_wp2_with (go_at_call 9; refine (awake15_any _).mono ?_; rintro e w1 ⟨rfl, hb1⟩)
    go_ret
    exact ⟨rfl, hs.trans (hb1.mono hs.size)⟩
  · by_cases h2 : 300 < a.u.size
    · clear hb
      go_enter Try.func3, Try.ntmps3
      go_wp2_with (go_at_call 9; refine (awake15_any _).mono ?_; rintro e w1 ⟨rfl, hb1⟩)
      go_ret
      exact ⟨rfl, hs.trans (hb1.mono hs.size)⟩
    · by_cases h3 : 300 < b.u.size
      · clear hb
        go_enter Try.func3, Try.ntmps3
        go_wp2_with (go_at_call 9; refine (awake15_any _).mono ?_; rintro e w1 ⟨rfl, hb1⟩)
        go_ret
        exact ⟨rfl, hs.trans (hb1.mono hs.size)⟩
      · have h4 : 300 < u.size := by omega
        clear hb
        go_enter Try.func3, Try.ntmps3
        go_wp2_with (go_at_call 9; refine (awake15_any _).mono ?_; rintro e w1 ⟨rfl, hb1⟩)
        go_ret
        exact ⟨rfl, hs.trans (hb1.mono hs.size)⟩
theorem st_S {w V V' : World} {b : Nat} {ob : Obj} (h : V.heap[b]? = some ob ∧ Hid (Below w.heap.size w V)) (hb : Below V.heap.size V V') : V'.heap[b]? = some ob ∧ Hid (Below w.heap.size w V') := ⟨blk_bels hb h.1, Lib.hid (h.2.out.trans (hb.mono h.2.out.size))⟩
set_option maxHeartbeats 3200000 in
theorem checks_small (z n : Int) (a b : Ky) (va : Option Addr) (m c : Nat) (l : List (Int × Int)) (u : ByteArray) (w : World) (h : IsRr w (.slice va m c) l) (hm : ¬ 60 < m) (h1 : ¬ 300 < a.u.size) (h2 : ¬ 300 < b.u.size) (h3 : ¬ 300 < u.size) :
    Calls Try.prog 3 #[metaV z n a b (.slice va m c), .string u] w fun e w' => e = .returned (.bool true) ∧ Below w.heap.size w w' := by
  have hs : Below w.heap.size w (w.alloc (.cells #[.int .i64 z, .int .i64 n, .string a.u, .int .i64 a.s, .int .i64 a.k, .string b.u, .int .i64 b.s, .int .i64 b.k, .slice va m c] 26)) := (Below.refl _ _).alloc (Nat.le_refl _) _
  have hblk := blk_of_alloc w (.cells #[.int .i64 z, .int .i64 n, .string a.u, .int .i64 a.s, .int .i64 a.k, .string b.u, .int .i64 b.s, .int .i64 b.k, .slice va m c] 26)
  have hml : m = l.length := h.at.1
  have hl : l.length ≤ 1000000 := by omega
  have ha : a.u.size ≤ maxLen := by unfold maxLen; omega
  have hbu : b.u.size ≤ maxLen := by unfold maxLen; omega
  have hu : u.size ≤ maxLen := by unfold maxLen; omega
  have HO1 := Lib.hid (fun W => Order_any a.u u ha hu W)
  have HO2 := Lib.hid (fun W => Order_any u b.u hu hbu W)
  have HC := Lib.hid (fun (W : World) (hW : Hid (Below w.heap.size w W)) => lcheck_any z n a b (.slice va m c) l W (h.below hW.out) hl)
  have HR := Lib.hid (fun (W : World) (hW : Hid (Below w.heap.size w W)) => ref_any z n a b (.slice va m c) l W (h.below hW.out) hl)
  have HT := Lib.hid (fun (v : Value) (W : World) (hW : IsRr W v l) => right15_any z n a b v l W hW hl ha hbu)
  have HV := Lib.hid (fun (W : World) => covers_any z n a b (.slice va m c) u W va m c rfl)
  unfold metaV at HC HR HT ⊢
  obtain ⟨C1, hC1⟩ : ∃ C1, C1 = cmpB a.u u := ⟨_, rfl⟩
  obtain ⟨C2, hC2⟩ : ∃ C2, C2 = cmpB u b.u := ⟨_, rfl⟩
  have hcv : coverB a b u = (decide (C1 ≤ 0) && decide (C2 ≤ 0)) := by unfold coverB; rw [← hC1, ← hC2]
  rw [hcv] at HV
  rw [← hC1] at HO1
  rw [← hC2] at HO2
  clear hC1 hC2 hcv h hl ha hbu hu hml
  obtain ⟨k, hk⟩ : ∃ k, k = metaOk z n a b l := ⟨_, rfl⟩
  rw [← hk] at HC HT
  clear hk
  go_enter Try.func3, Try.ntmps3
  go_upto_region 3 with fail
  generalize w.alloc (.cells #[.int .i64 z, .int .i64 n, .string a.u, .int .i64 a.s, .int .i64 a.k, .string b.u, .int .i64 b.s, .int .i64 b.k, .slice va m c] 26) = W at *
  have Hs := Lib.hid hs
  clear hs
  go_cut [5] (fun cv wc => cv = .bool (decide (C1 ≤ 0) && decide (C2 ≤ 0)) ∧ ∃ nd, wc = W.drewN nd)
  case first =>
    have hc2 := (cell_of_blk hblk 2).trans (show _ = some (.string a.u) from rfl)
    have hc5 := (cell_of_blk hblk 5).trans (show _ = some (.string b.u) from rfl)
    clear hblk HC HR HT HV
    by_cases hk1 : C1 ≤ 0
    · go_wp2_with fail
      refine (HO1.out _).mono ?_
      rintro e w1 ⟨rfl, n1, rfl⟩
      go_wp2_with fail
      refine (HO2.out _).mono ?_
      rintro e w2 ⟨rfl, n2, rfl⟩
      go_wp2_with fail
      go_meet
      case rel => exact ⟨by rw [decide_eq_true hk1]; rfl, n1 + n2, rfl⟩
    · go_wp2_with fail
      refine (HO1.out _).mono ?_
      rintro e w1 ⟨rfl, n1, rfl⟩
      go_wp2_with fail
      go_meet
      case rel => exact ⟨by rw [decide_eq_false (by omega)]; rfl, n1, rfl⟩
  case rest =>
    obtain ⟨rfl, nd, rfl⟩ := hcut
    obtain ⟨cv, hcv⟩ : ∃ cv, cv = (decide (C1 ≤ 0) && decide (C2 ≤ 0)) := ⟨_, rfl⟩
    rw [← hcv] at HV ⊢
    clear hcv HO1 HO2
    have hblk2 : (W.drewN nd).heap[w.heap.size]? = some (.cells #[.int .i64 z, .int .i64 n, .string a.u, .int .i64 a.s, .int .i64 a.k, .string b.u, .int .i64 b.s, .int .i64 b.k, .slice va m c] 26 (0, 0)) := hblk
    have hs2 : Below w.heap.size w (W.drewN nd) := below_drewN Hs.out nd
    clear hblk Hs
    generalize W.drewN nd = V at *
    have HS : Hid (V.drew.heap[w.heap.size]? = some (.cells #[.int .i64 z, .int .i64 n, .string a.u, .int .i64 a.s, .int .i64 a.k, .string b.u, .int .i64 b.s, .int .i64 b.k, .slice va m c] 26 (0, 0)) ∧ Hid (Below w.heap.size w V.drew)) := Lib.hid ⟨hblk2, Lib.hid hs2.drew⟩
    clear hblk2 hs2
    cases k
    · unfold chkM at HC
      rw [if_neg (by decide)] at HC
      cases cv
      all_goals
        go_wp2_with fail
        refine wp_region_held_drew (S := fun V' => V'.heap[w.heap.size]? = some (.cells #[.int .i64 z, .int .i64 n, .string a.u, .int .i64 a.s, .int .i64 a.k, .string b.u, .int .i64 b.s, .int .i64 b.k, .slice va m c] 26 (0, 0)) ∧ Hid (Below w.heap.size w V')) (by kernel_rfl) HS.out (fun hS0 => ?_)
        refine wpAnyH_take (i := 0) (oi := { dst := some 44, op := Op.load 26 (Operand.tmp 2), type := 26, pos := "law.go:79", after := #[], guard := none }) (v := ?_) rfl (by kernel_rfl) (by kernel_rfl) (by kernel_rfl) (fun _ _ _ h => h) (Or.inl ⟨by rfl, ?hy1⟩) hS0 ?_
        case hy1 => (intro V hSw; (try dsimp only at hSw); have hcw := fun j => cell_of_blk hSw.1 j; clear hSw; go_simp; try with_reducible rfl)
        try simp only [Act.put, List.setIfInBounds_toArray, List.set_cons_zero, List.set_cons_succ]
        refine wpAnyH_take (i := 3) (oi := { dst := some 47, op := Op.load 26 (Operand.tmp 2), type := 26, pos := "law.go:79", after := #[], guard := none }) (v := ?_) rfl (by kernel_rfl) (by kernel_rfl) (by kernel_rfl) (fun _ _ _ h => h) (Or.inl ⟨by rfl, ?hy2⟩) hS0 ?_
        case hy2 => (intro V hSw; (try dsimp only at hSw); have hcw := fun j => cell_of_blk hSw.1 j; clear hSw; go_simp; try with_reducible rfl)
        try simp only [Act.put, List.setIfInBounds_toArray, List.set_cons_zero, List.set_cons_succ]
        refine wpAnyH_ready (rs := [1]) (by kernel_rfl) (by simp) (AllReadyH.cons rfl (fun K hK => ?_) AllReadyH.nil)
        go_simp
        refine (HC.out _ hS0.2).mono ?_
        rintro e wv3 ⟨rfl, hv3⟩
        have hS3 := st_S hS0 hv3
        clear hv3
        refine hK.out _ _ hS3 (fun _ => ?_)
        clear hK K
        try simp only [Act.put, List.setIfInBounds_toArray, List.set_cons_zero, List.set_cons_succ]
        refine wpAnyH_take (i := 2) (oi := { dst := some 46, op := Op.binOp BinOp.eql 29 (Operand.tmp 45) (Operand.const (Value.int IntKind.i64 0)) 29, type := 4, pos := "law.go:79", after := #[{ on := 1, ground := Ground.data }], guard := none }) (v := ?_) rfl (by kernel_rfl) (by kernel_rfl) (by kernel_rfl) (fun _ _ _ h => h) (Or.inl ⟨by rfl, ?hy4⟩) hS3 ?_
        case hy4 => (intro V hSw; (try dsimp only at hSw); have hcw := fun j => cell_of_blk hSw.1 j; clear hSw; go_simp; try with_reducible rfl)
        try simp only [Act.put, List.setIfInBounds_toArray, List.set_cons_zero, List.set_cons_succ]
        refine wpAnyH_ready (rs := [4]) (by kernel_rfl) (by simp) (AllReadyH.cons rfl (fun K hK => ?_) AllReadyH.nil)
        go_simp
        refine (HR.out _ hS3.2).mono ?_
        rintro e wv5 ⟨v', rfl, ho5, hv5⟩
        have hS5 := st_S hS3 hv5
        clear hv5
        have hir5 := Lib.hid (isSl_own rfC_len ho5)
        clear ho5
        refine hK.out _ _ hS5 (fun _ => ?_)
        clear hK K
        try simp only [Act.put, List.setIfInBounds_toArray, List.set_cons_zero, List.set_cons_succ]
        refine wpAnyH_ready (rs := [5]) (by kernel_rfl) (by simp) (AllReadyH.cons rfl (fun K hK => ?_) AllReadyH.nil)
        go_simp
        refine (HT.out _ _ hir5.out).mono ?_
        rintro e wv6 ⟨rfl, hv6⟩
        have hS6 := st_S hS5 hv6
        clear hv6
        refine hK.out _ _ hS6 (fun _ => ?_)
        clear hK K
        try simp only [Act.put, List.setIfInBounds_toArray, List.set_cons_zero, List.set_cons_succ]
        refine wpAnyH_take (i := 6) (oi := { dst := some 50, op := Op.binOp BinOp.eql 4 (Operand.tmp 46) (Operand.tmp 49) 4, type := 4, pos := "law.go:79", after := #[{ on := 2, ground := Ground.data }, { on := 5, ground := Ground.data }], guard := none }) (v := ?_) rfl (by kernel_rfl) (by kernel_rfl) (by kernel_rfl) (fun _ _ _ h => h) (Or.inl ⟨by rfl, ?hy7⟩) hS6 ?_
        case hy7 => (intro V hSw; (try dsimp only at hSw); have hcw := fun j => cell_of_blk hSw.1 j; clear hSw; go_simp; try with_reducible rfl)
        try simp only [Act.put, List.setIfInBounds_toArray, List.set_cons_zero, List.set_cons_succ]
        refine wpAnyH_take (i := 7) (oi := { dst := some 51, op := Op.move (Operand.tmp 50), type := 4, pos := "law.go:79", after := #[{ on := 6, ground := Ground.data }, { on := 5, ground := Ground.chain }], guard := none }) (v := ?_) rfl (by kernel_rfl) (by kernel_rfl) (by kernel_rfl) (fun _ _ _ h => h) (Or.inl ⟨by rfl, ?hy8⟩) hS6 ?_
        case hy8 => (intro V hSw; (try dsimp only at hSw); have hcw := fun j => cell_of_blk hSw.1 j; clear hSw; go_simp; try with_reducible rfl)
        try simp only [Act.put, List.setIfInBounds_toArray, List.set_cons_zero, List.set_cons_succ]
        refine wpAnyH_take (i := 8) (oi := { dst := some 52, op := Op.load 26 (Operand.tmp 2), type := 26, pos := "law.go:79", after := #[{ on := 7, ground := Ground.guard }], guard := some (7, true) }) (v := ?_) rfl (by kernel_rfl) (by kernel_rfl) (by kernel_rfl) (fun _ _ _ h => h) (Or.inl ⟨by rfl, ?hy9⟩) hS6 ?_
        case hy9 => (intro V hSw; (try dsimp only at hSw); have hcw := fun j => cell_of_blk hSw.1 j; clear hSw; go_simp; try with_reducible rfl)
        try simp only [Act.put, List.setIfInBounds_toArray, List.set_cons_zero, List.set_cons_succ]
        refine wpAnyH_ready (rs := [9]) (by kernel_rfl) (by simp) (AllReadyH.cons rfl (fun K hK => ?_) AllReadyH.nil)
        go_simp
        refine (HC.out _ hS6.2).mono ?_
        rintro e wv10 ⟨rfl, hv10⟩
        have hS10 := st_S hS6 hv10
        clear hv10
        refine hK.out _ _ hS10 (fun _ => ?_)
        clear hK K
        try simp only [Act.put, List.setIfInBounds_toArray, List.set_cons_zero, List.set_cons_succ]
        refine wpAnyH_take (i := 10) (oi := { dst := some 54, op := Op.binOp BinOp.eql 29 (Operand.tmp 53) (Operand.const (Value.int IntKind.i64 0)) 29, type := 4, pos := "law.go:79", after := #[{ on := 9, ground := Ground.data }, { on := 7, ground := Ground.guard }], guard := some (7, true) }) (v := ?_) rfl (by kernel_rfl) (by kernel_rfl) (by kernel_rfl) (fun _ _ _ h => h) (Or.inl ⟨by rfl, ?hy11⟩) hS10 ?_
        case hy11 => (intro V hSw; (try dsimp only at hSw); have hcw := fun j => cell_of_blk hSw.1 j; clear hSw; go_simp; try with_reducible rfl)
        try simp only [Act.put, List.setIfInBounds_toArray, List.set_cons_zero, List.set_cons_succ]
        refine wpAnyH_take (i := 11) (oi := { dst := some 55, op := Op.move (Operand.tmp 54), type := 4, pos := "law.go:79", after := #[{ on := 10, ground := Ground.data }, { on := 9, ground := Ground.chain }, { on := 7, ground := Ground.guard }], guard := some (7, true) }) (v := ?_) rfl (by kernel_rfl) (by kernel_rfl) (by kernel_rfl) (fun _ _ _ h => h) (Or.inl ⟨by rfl, ?hy12⟩) hS10 ?_
        case hy12 => (intro V hSw; (try dsimp only at hSw); have hcw := fun j => cell_of_blk hSw.1 j; clear hSw; go_simp; try with_reducible rfl)
        try simp only [Act.put, List.setIfInBounds_toArray, List.set_cons_zero, List.set_cons_succ]
        refine wpAnyH_take (i := 12) (oi := { dst := some 56, op := Op.load 26 (Operand.tmp 2), type := 26, pos := "law.go:79", after := #[{ on := 11, ground := Ground.guard }], guard := some (11, false) }) (v := ?_) rfl (by kernel_rfl) (by kernel_rfl) (by kernel_rfl) (fun _ _ _ h => h) (Or.inl ⟨by rfl, ?hy13⟩) hS10 ?_
        case hy13 => (intro V hSw; (try dsimp only at hSw); have hcw := fun j => cell_of_blk hSw.1 j; clear hSw; go_simp; try with_reducible rfl)
        try simp only [Act.put, List.setIfInBounds_toArray, List.set_cons_zero, List.set_cons_succ]
        refine wpAnyH_ready (rs := [13]) (by kernel_rfl) (by simp) (AllReadyH.cons rfl (fun K hK => ?_) AllReadyH.nil)
        go_simp
        refine (HC.out _ hS10.2).mono ?_
        rintro e wv14 ⟨rfl, hv14⟩
        have hS14 := st_S hS10 hv14
        clear hv14
        refine hK.out _ _ hS14 (fun _ => ?_)
        clear hK K
        try simp only [Act.put, List.setIfInBounds_toArray, List.set_cons_zero, List.set_cons_succ]
        refine wpAnyH_take (i := 14) (oi := { dst := some 58, op := Op.binOp BinOp.eql 29 (Operand.tmp 57) (Operand.const (Value.int IntKind.i64 150)) 29, type := 4, pos := "law.go:79", after := #[{ on := 13, ground := Ground.data }, { on := 11, ground := Ground.guard }], guard := some (11, false) }) (v := ?_) rfl (by kernel_rfl) (by kernel_rfl) (by kernel_rfl) (fun _ _ _ h => h) (Or.inl ⟨by rfl, ?hy15⟩) hS14 ?_
        case hy15 => (intro V hSw; (try dsimp only at hSw); have hcw := fun j => cell_of_blk hSw.1 j; clear hSw; go_simp; try with_reducible rfl)
        try simp only [Act.put, List.setIfInBounds_toArray, List.set_cons_zero, List.set_cons_succ]
        refine wpAnyH_take (i := 15) (oi := { dst := some 59, op := Op.pick (Operand.tmp 55) (Operand.const (Value.bool true)) (Operand.tmp 58), type := 4, pos := "law.go:79", after := #[{ on := 11, ground := Ground.data }, { on := 14, ground := Ground.data }, { on := 7, ground := Ground.guard }], guard := some (7, true) }) (v := ?_) rfl (by kernel_rfl) (by kernel_rfl) (by kernel_rfl) (fun _ _ _ h => h) (Or.inl ⟨by rfl, ?hy16⟩) hS14 ?_
        case hy16 => (intro V hSw; (try dsimp only at hSw); have hcw := fun j => cell_of_blk hSw.1 j; clear hSw; go_simp; try with_reducible rfl)
        try simp only [Act.put, List.setIfInBounds_toArray, List.set_cons_zero, List.set_cons_succ]
        refine wpAnyH_take (i := 16) (oi := { dst := some 60, op := Op.pick (Operand.tmp 51) (Operand.tmp 59) (Operand.const (Value.bool false)), type := 4, pos := "law.go:79", after := #[{ on := 7, ground := Ground.data }, { on := 15, ground := Ground.data }], guard := none }) (v := ?_) rfl (by kernel_rfl) (by kernel_rfl) (by kernel_rfl) (fun _ _ _ h => h) (Or.inl ⟨by rfl, ?hy17⟩) hS14 ?_
        case hy17 => (intro V hSw; (try dsimp only at hSw); have hcw := fun j => cell_of_blk hSw.1 j; clear hSw; go_simp; try with_reducible rfl)
        try simp only [Act.put, List.setIfInBounds_toArray, List.set_cons_zero, List.set_cons_succ]
        refine wpAnyH_take (i := 17) (oi := { dst := some 61, op := Op.move (Operand.tmp 60), type := 4, pos := "law.go:79", after := #[{ on := 16, ground := Ground.data }, { on := 13, ground := Ground.chain }], guard := none }) (v := ?_) rfl (by kernel_rfl) (by kernel_rfl) (by kernel_rfl) (fun _ _ _ h => h) (Or.inl ⟨by rfl, ?hy18⟩) hS14 ?_
        case hy18 => (intro V hSw; (try dsimp only at hSw); have hcw := fun j => cell_of_blk hSw.1 j; clear hSw; go_simp; try with_reducible rfl)
        try simp only [Act.put, List.setIfInBounds_toArray, List.set_cons_zero, List.set_cons_succ]
        refine wpAnyH_take (i := 18) (oi := { dst := some 62, op := Op.load 26 (Operand.tmp 2), type := 26, pos := "law.go:79", after := #[{ on := 17, ground := Ground.guard }], guard := some (17, true) }) (v := ?_) rfl (by kernel_rfl) (by kernel_rfl) (by kernel_rfl) (fun _ _ _ h => h) (Or.inl ⟨by rfl, ?hy19⟩) hS14 ?_
        case hy19 => (intro V hSw; (try dsimp only at hSw); have hcw := fun j => cell_of_blk hSw.1 j; clear hSw; go_simp; try with_reducible rfl)
        try simp only [Act.put, List.setIfInBounds_toArray, List.set_cons_zero, List.set_cons_succ]
        refine wpAnyH_take (i := 19) (oi := { dst := some 63, op := Op.move (Operand.tmp 1), type := 9, pos := "law.go:79", after := #[{ on := 17, ground := Ground.guard }], guard := some (17, true) }) (v := ?_) rfl (by kernel_rfl) (by kernel_rfl) (by kernel_rfl) (fun _ _ _ h => h) (Or.inl ⟨by rfl, ?hy20⟩) hS14 ?_
        case hy20 => (intro V hSw; (try dsimp only at hSw); have hcw := fun j => cell_of_blk hSw.1 j; clear hSw; go_simp; try with_reducible rfl)
        try simp only [Act.put, List.setIfInBounds_toArray, List.set_cons_zero, List.set_cons_succ]
        refine wpAnyH_take (i := 21) (oi := { dst := some 65, op := Op.move (Operand.tmp 5), type := 4, pos := "law.go:79", after := #[{ on := 17, ground := Ground.guard }], guard := some (17, true) }) (v := ?_) rfl (by kernel_rfl) (by kernel_rfl) (by kernel_rfl) (fun _ _ _ h => h) (Or.inl ⟨by rfl, ?hy21⟩) hS14 ?_
        case hy21 => (intro V hSw; (try dsimp only at hSw); have hcw := fun j => cell_of_blk hSw.1 j; clear hSw; go_simp; try with_reducible rfl)
        try simp only [Act.put, List.setIfInBounds_toArray, List.set_cons_zero, List.set_cons_succ]
        refine wpAnyH_ready (rs := [20]) (by kernel_rfl) (by simp) (AllReadyH.cons rfl (fun K hK => ?_) AllReadyH.nil)
        go_simp
        refine (HV.out _).mono ?_
        rintro e wv22 ⟨rfl, hv22⟩
        have hS22 := st_S hS14 hv22
        clear hv22
        refine hK.out _ _ hS22 (fun _ => ?_)
        clear hK K
        try simp only [Act.put, List.setIfInBounds_toArray, List.set_cons_zero, List.set_cons_succ]
        refine wpAnyH_take (i := 22) (oi := { dst := some 66, op := Op.binOp BinOp.eql 4 (Operand.tmp 64) (Operand.tmp 65) 4, type := 4, pos := "law.go:79", after := #[{ on := 20, ground := Ground.data }, { on := 21, ground := Ground.data }, { on := 17, ground := Ground.guard }], guard := some (17, true) }) (v := ?_) rfl (by kernel_rfl) (by kernel_rfl) (by kernel_rfl) (fun _ _ _ h => h) (Or.inl ⟨by rfl, ?hy23⟩) hS22 ?_
        case hy23 => (intro V hSw; (try dsimp only at hSw); have hcw := fun j => cell_of_blk hSw.1 j; clear hSw; go_simp; try with_reducible rfl)
        try simp only [Act.put, List.setIfInBounds_toArray, List.set_cons_zero, List.set_cons_succ]
        refine wpAnyH_take (i := 23) (oi := { dst := some 67, op := Op.pick (Operand.tmp 61) (Operand.tmp 66) (Operand.const (Value.bool false)), type := 4, pos := "law.go:79", after := #[{ on := 17, ground := Ground.data }, { on := 22, ground := Ground.data }], guard := none }) (v := ?_) rfl (by kernel_rfl) (by kernel_rfl) (by kernel_rfl) (fun _ _ _ h => h) (Or.inl ⟨by rfl, ?hy24⟩) hS22 ?_
        case hy24 => (intro V hSw; (try dsimp only at hSw); have hcw := fun j => cell_of_blk hSw.1 j; clear hSw; go_simp; try with_reducible rfl)
        try simp only [Act.put, List.setIfInBounds_toArray, List.set_cons_zero, List.set_cons_succ]
        refine wpAnyH_take (i := 24) (oi := { dst := some 68, op := Op.move (Operand.tmp 67), type := 4, pos := "law.go:79", after := #[{ on := 23, ground := Ground.data }, { on := 20, ground := Ground.chain }], guard := none }) (v := ?_) rfl (by kernel_rfl) (by kernel_rfl) (by kernel_rfl) (fun _ _ _ h => h) (Or.inl ⟨by rfl, ?hy25⟩) hS22 ?_
        case hy25 => (intro V hSw; (try dsimp only at hSw); have hcw := fun j => cell_of_blk hSw.1 j; clear hSw; go_simp; try with_reducible rfl)
        try simp only [Act.put, List.setIfInBounds_toArray, List.set_cons_zero, List.set_cons_succ]
        refine wpAnyH_ready (rs := [25]) (by kernel_rfl) (by simp) (AllReadyH.cons rfl (fun K hK => ?_) AllReadyH.nil)
        go_simp
        refine (awake15_any _).mono ?_
        rintro e wv26 ⟨rfl, hv26⟩
        have hS26 := st_S hS22 hv26
        clear hv26
        refine hK.out _ _ hS26 (fun _ => ?_)
        clear hK K
        try simp only [Act.put, List.setIfInBounds_toArray, List.set_cons_zero, List.set_cons_succ]
        refine wpAnyH_take (i := 26) (oi := { dst := some 70, op := Op.pick (Operand.tmp 68) (Operand.tmp 69) (Operand.const (Value.bool false)), type := 4, pos := "law.go:79", after := #[{ on := 24, ground := Ground.data }, { on := 25, ground := Ground.data }], guard := none }) (v := ?_) rfl (by kernel_rfl) (by kernel_rfl) (by kernel_rfl) (fun _ _ _ h => h) (Or.inl ⟨by rfl, ?hy27⟩) hS26 ?_
        case hy27 => (intro V hSw; (try dsimp only at hSw); have hcw := fun j => cell_of_blk hSw.1 j; clear hSw; go_simp; try with_reducible rfl)
        try simp only [Act.put, List.setIfInBounds_toArray, List.set_cons_zero, List.set_cons_succ]
        refine wpAnyH_ready (rs := [27]) (by kernel_rfl) (by simp) (AllReadyH.cons rfl (fun K hK => ?_) AllReadyH.nil)
        go_simp
        refine hK.out _ _ hS26 (fun _ => ?_)
        clear hK K
        try simp only [Act.put, List.setIfInBounds_toArray, List.set_cons_zero, List.set_cons_succ]
        refine wpAnyH_done (by kernel_rfl) ?_ _
        go_wp2_with fail
        go_ret
        exact ⟨rfl, hS26.2.out⟩
    · unfold chkM at HC
      rw [if_pos rfl] at HC
      cases cv
      all_goals
        go_wp2_with fail
        refine wp_region_held_drew (S := fun V' => V'.heap[w.heap.size]? = some (.cells #[.int .i64 z, .int .i64 n, .string a.u, .int .i64 a.s, .int .i64 a.k, .string b.u, .int .i64 b.s, .int .i64 b.k, .slice va m c] 26 (0, 0)) ∧ Hid (Below w.heap.size w V')) (by kernel_rfl) HS.out (fun hS0 => ?_)
        refine wpAnyH_take (i := 0) (oi := { dst := some 44, op := Op.load 26 (Operand.tmp 2), type := 26, pos := "law.go:79", after := #[], guard := none }) (v := ?_) rfl (by kernel_rfl) (by kernel_rfl) (by kernel_rfl) (fun _ _ _ h => h) (Or.inl ⟨by rfl, ?hy28⟩) hS0 ?_
        case hy28 => (intro V hSw; (try dsimp only at hSw); have hcw := fun j => cell_of_blk hSw.1 j; clear hSw; go_simp; try with_reducible rfl)
        try simp only [Act.put, List.setIfInBounds_toArray, List.set_cons_zero, List.set_cons_succ]
        refine wpAnyH_take (i := 3) (oi := { dst := some 47, op := Op.load 26 (Operand.tmp 2), type := 26, pos := "law.go:79", after := #[], guard := none }) (v := ?_) rfl (by kernel_rfl) (by kernel_rfl) (by kernel_rfl) (fun _ _ _ h => h) (Or.inl ⟨by rfl, ?hy29⟩) hS0 ?_
        case hy29 => (intro V hSw; (try dsimp only at hSw); have hcw := fun j => cell_of_blk hSw.1 j; clear hSw; go_simp; try with_reducible rfl)
        try simp only [Act.put, List.setIfInBounds_toArray, List.set_cons_zero, List.set_cons_succ]
        refine wpAnyH_ready (rs := [1]) (by kernel_rfl) (by simp) (AllReadyH.cons rfl (fun K hK => ?_) AllReadyH.nil)
        go_simp
        refine (HC.out _ hS0.2).mono ?_
        rintro e wv30 ⟨rfl, hv30⟩
        have hS30 := st_S hS0 hv30
        clear hv30
        refine hK.out _ _ hS30 (fun _ => ?_)
        clear hK K
        try simp only [Act.put, List.setIfInBounds_toArray, List.set_cons_zero, List.set_cons_succ]
        refine wpAnyH_take (i := 2) (oi := { dst := some 46, op := Op.binOp BinOp.eql 29 (Operand.tmp 45) (Operand.const (Value.int IntKind.i64 0)) 29, type := 4, pos := "law.go:79", after := #[{ on := 1, ground := Ground.data }], guard := none }) (v := ?_) rfl (by kernel_rfl) (by kernel_rfl) (by kernel_rfl) (fun _ _ _ h => h) (Or.inl ⟨by rfl, ?hy31⟩) hS30 ?_
        case hy31 => (intro V hSw; (try dsimp only at hSw); have hcw := fun j => cell_of_blk hSw.1 j; clear hSw; go_simp; try with_reducible rfl)
        try simp only [Act.put, List.setIfInBounds_toArray, List.set_cons_zero, List.set_cons_succ]
        refine wpAnyH_ready (rs := [4]) (by kernel_rfl) (by simp) (AllReadyH.cons rfl (fun K hK => ?_) AllReadyH.nil)
        go_simp
        refine (HR.out _ hS30.2).mono ?_
        rintro e wv32 ⟨v', rfl, ho32, hv32⟩
        have hS32 := st_S hS30 hv32
        clear hv32
        have hir32 := Lib.hid (isSl_own rfC_len ho32)
        clear ho32
        refine hK.out _ _ hS32 (fun _ => ?_)
        clear hK K
        try simp only [Act.put, List.setIfInBounds_toArray, List.set_cons_zero, List.set_cons_succ]
        refine wpAnyH_ready (rs := [5]) (by kernel_rfl) (by simp) (AllReadyH.cons rfl (fun K hK => ?_) AllReadyH.nil)
        go_simp
        refine (HT.out _ _ hir32.out).mono ?_
        rintro e wv33 ⟨rfl, hv33⟩
        have hS33 := st_S hS32 hv33
        clear hv33
        refine hK.out _ _ hS33 (fun _ => ?_)
        clear hK K
        try simp only [Act.put, List.setIfInBounds_toArray, List.set_cons_zero, List.set_cons_succ]
        refine wpAnyH_take (i := 6) (oi := { dst := some 50, op := Op.binOp BinOp.eql 4 (Operand.tmp 46) (Operand.tmp 49) 4, type := 4, pos := "law.go:79", after := #[{ on := 2, ground := Ground.data }, { on := 5, ground := Ground.data }], guard := none }) (v := ?_) rfl (by kernel_rfl) (by kernel_rfl) (by kernel_rfl) (fun _ _ _ h => h) (Or.inl ⟨by rfl, ?hy34⟩) hS33 ?_
        case hy34 => (intro V hSw; (try dsimp only at hSw); have hcw := fun j => cell_of_blk hSw.1 j; clear hSw; go_simp; try with_reducible rfl)
        try simp only [Act.put, List.setIfInBounds_toArray, List.set_cons_zero, List.set_cons_succ]
        refine wpAnyH_take (i := 7) (oi := { dst := some 51, op := Op.move (Operand.tmp 50), type := 4, pos := "law.go:79", after := #[{ on := 6, ground := Ground.data }, { on := 5, ground := Ground.chain }], guard := none }) (v := ?_) rfl (by kernel_rfl) (by kernel_rfl) (by kernel_rfl) (fun _ _ _ h => h) (Or.inl ⟨by rfl, ?hy35⟩) hS33 ?_
        case hy35 => (intro V hSw; (try dsimp only at hSw); have hcw := fun j => cell_of_blk hSw.1 j; clear hSw; go_simp; try with_reducible rfl)
        try simp only [Act.put, List.setIfInBounds_toArray, List.set_cons_zero, List.set_cons_succ]
        refine wpAnyH_take (i := 8) (oi := { dst := some 52, op := Op.load 26 (Operand.tmp 2), type := 26, pos := "law.go:79", after := #[{ on := 7, ground := Ground.guard }], guard := some (7, true) }) (v := ?_) rfl (by kernel_rfl) (by kernel_rfl) (by kernel_rfl) (fun _ _ _ h => h) (Or.inl ⟨by rfl, ?hy36⟩) hS33 ?_
        case hy36 => (intro V hSw; (try dsimp only at hSw); have hcw := fun j => cell_of_blk hSw.1 j; clear hSw; go_simp; try with_reducible rfl)
        try simp only [Act.put, List.setIfInBounds_toArray, List.set_cons_zero, List.set_cons_succ]
        refine wpAnyH_ready (rs := [9]) (by kernel_rfl) (by simp) (AllReadyH.cons rfl (fun K hK => ?_) AllReadyH.nil)
        go_simp
        refine (HC.out _ hS33.2).mono ?_
        rintro e wv37 ⟨rfl, hv37⟩
        have hS37 := st_S hS33 hv37
        clear hv37
        refine hK.out _ _ hS37 (fun _ => ?_)
        clear hK K
        try simp only [Act.put, List.setIfInBounds_toArray, List.set_cons_zero, List.set_cons_succ]
        refine wpAnyH_take (i := 10) (oi := { dst := some 54, op := Op.binOp BinOp.eql 29 (Operand.tmp 53) (Operand.const (Value.int IntKind.i64 0)) 29, type := 4, pos := "law.go:79", after := #[{ on := 9, ground := Ground.data }, { on := 7, ground := Ground.guard }], guard := some (7, true) }) (v := ?_) rfl (by kernel_rfl) (by kernel_rfl) (by kernel_rfl) (fun _ _ _ h => h) (Or.inl ⟨by rfl, ?hy38⟩) hS37 ?_
        case hy38 => (intro V hSw; (try dsimp only at hSw); have hcw := fun j => cell_of_blk hSw.1 j; clear hSw; go_simp; try with_reducible rfl)
        try simp only [Act.put, List.setIfInBounds_toArray, List.set_cons_zero, List.set_cons_succ]
        refine wpAnyH_take (i := 11) (oi := { dst := some 55, op := Op.move (Operand.tmp 54), type := 4, pos := "law.go:79", after := #[{ on := 10, ground := Ground.data }, { on := 9, ground := Ground.chain }, { on := 7, ground := Ground.guard }], guard := some (7, true) }) (v := ?_) rfl (by kernel_rfl) (by kernel_rfl) (by kernel_rfl) (fun _ _ _ h => h) (Or.inl ⟨by rfl, ?hy39⟩) hS37 ?_
        case hy39 => (intro V hSw; (try dsimp only at hSw); have hcw := fun j => cell_of_blk hSw.1 j; clear hSw; go_simp; try with_reducible rfl)
        try simp only [Act.put, List.setIfInBounds_toArray, List.set_cons_zero, List.set_cons_succ]
        refine wpAnyH_take (i := 12) (oi := { dst := some 56, op := Op.load 26 (Operand.tmp 2), type := 26, pos := "law.go:79", after := #[{ on := 11, ground := Ground.guard }], guard := some (11, false) }) (v := undef) rfl (by kernel_rfl) (by kernel_rfl) (by kernel_rfl) (fun _ _ _ h => h) (Or.inr ⟨by rfl, rfl⟩) hS37 ?_
        try simp only [Act.put, List.setIfInBounds_toArray, List.set_cons_zero, List.set_cons_succ]
        refine wpAnyH_take (i := 13) (oi := { dst := some 57, op := Op.call { callee := Callee.value (Operand.func 11), args := #[Operand.tmp 56], argTypes := #[26] }, type := 29, pos := "law.go:79", after := #[{ on := 12, ground := Ground.data }, { on := 11, ground := Ground.chain }, { on := 11, ground := Ground.guard }], guard := some (11, false) }) (v := undef) rfl (by kernel_rfl) (by kernel_rfl) (by kernel_rfl) (fun _ _ _ h => h) (Or.inr ⟨by rfl, rfl⟩) hS37 ?_
        try simp only [Act.put, List.setIfInBounds_toArray, List.set_cons_zero, List.set_cons_succ]
        refine wpAnyH_take (i := 14) (oi := { dst := some 58, op := Op.binOp BinOp.eql 29 (Operand.tmp 57) (Operand.const (Value.int IntKind.i64 150)) 29, type := 4, pos := "law.go:79", after := #[{ on := 13, ground := Ground.data }, { on := 11, ground := Ground.guard }], guard := some (11, false) }) (v := undef) rfl (by kernel_rfl) (by kernel_rfl) (by kernel_rfl) (fun _ _ _ h => h) (Or.inr ⟨by rfl, rfl⟩) hS37 ?_
        try simp only [Act.put, List.setIfInBounds_toArray, List.set_cons_zero, List.set_cons_succ]
        refine wpAnyH_take (i := 15) (oi := { dst := some 59, op := Op.pick (Operand.tmp 55) (Operand.const (Value.bool true)) (Operand.tmp 58), type := 4, pos := "law.go:79", after := #[{ on := 11, ground := Ground.data }, { on := 14, ground := Ground.data }, { on := 7, ground := Ground.guard }], guard := some (7, true) }) (v := ?_) rfl (by kernel_rfl) (by kernel_rfl) (by kernel_rfl) (fun _ _ _ h => h) (Or.inl ⟨by rfl, ?hy43⟩) hS37 ?_
        case hy43 => (intro V hSw; (try dsimp only at hSw); have hcw := fun j => cell_of_blk hSw.1 j; clear hSw; go_simp; try with_reducible rfl)
        try simp only [Act.put, List.setIfInBounds_toArray, List.set_cons_zero, List.set_cons_succ]
        refine wpAnyH_take (i := 16) (oi := { dst := some 60, op := Op.pick (Operand.tmp 51) (Operand.tmp 59) (Operand.const (Value.bool false)), type := 4, pos := "law.go:79", after := #[{ on := 7, ground := Ground.data }, { on := 15, ground := Ground.data }], guard := none }) (v := ?_) rfl (by kernel_rfl) (by kernel_rfl) (by kernel_rfl) (fun _ _ _ h => h) (Or.inl ⟨by rfl, ?hy44⟩) hS37 ?_
        case hy44 => (intro V hSw; (try dsimp only at hSw); have hcw := fun j => cell_of_blk hSw.1 j; clear hSw; go_simp; try with_reducible rfl)
        try simp only [Act.put, List.setIfInBounds_toArray, List.set_cons_zero, List.set_cons_succ]
        refine wpAnyH_take (i := 17) (oi := { dst := some 61, op := Op.move (Operand.tmp 60), type := 4, pos := "law.go:79", after := #[{ on := 16, ground := Ground.data }, { on := 13, ground := Ground.chain }], guard := none }) (v := ?_) rfl (by kernel_rfl) (by kernel_rfl) (by kernel_rfl) (fun _ _ _ h => h) (Or.inl ⟨by rfl, ?hy45⟩) hS37 ?_
        case hy45 => (intro V hSw; (try dsimp only at hSw); have hcw := fun j => cell_of_blk hSw.1 j; clear hSw; go_simp; try with_reducible rfl)
        try simp only [Act.put, List.setIfInBounds_toArray, List.set_cons_zero, List.set_cons_succ]
        refine wpAnyH_take (i := 18) (oi := { dst := some 62, op := Op.load 26 (Operand.tmp 2), type := 26, pos := "law.go:79", after := #[{ on := 17, ground := Ground.guard }], guard := some (17, true) }) (v := ?_) rfl (by kernel_rfl) (by kernel_rfl) (by kernel_rfl) (fun _ _ _ h => h) (Or.inl ⟨by rfl, ?hy46⟩) hS37 ?_
        case hy46 => (intro V hSw; (try dsimp only at hSw); have hcw := fun j => cell_of_blk hSw.1 j; clear hSw; go_simp; try with_reducible rfl)
        try simp only [Act.put, List.setIfInBounds_toArray, List.set_cons_zero, List.set_cons_succ]
        refine wpAnyH_take (i := 19) (oi := { dst := some 63, op := Op.move (Operand.tmp 1), type := 9, pos := "law.go:79", after := #[{ on := 17, ground := Ground.guard }], guard := some (17, true) }) (v := ?_) rfl (by kernel_rfl) (by kernel_rfl) (by kernel_rfl) (fun _ _ _ h => h) (Or.inl ⟨by rfl, ?hy47⟩) hS37 ?_
        case hy47 => (intro V hSw; (try dsimp only at hSw); have hcw := fun j => cell_of_blk hSw.1 j; clear hSw; go_simp; try with_reducible rfl)
        try simp only [Act.put, List.setIfInBounds_toArray, List.set_cons_zero, List.set_cons_succ]
        refine wpAnyH_take (i := 21) (oi := { dst := some 65, op := Op.move (Operand.tmp 5), type := 4, pos := "law.go:79", after := #[{ on := 17, ground := Ground.guard }], guard := some (17, true) }) (v := ?_) rfl (by kernel_rfl) (by kernel_rfl) (by kernel_rfl) (fun _ _ _ h => h) (Or.inl ⟨by rfl, ?hy48⟩) hS37 ?_
        case hy48 => (intro V hSw; (try dsimp only at hSw); have hcw := fun j => cell_of_blk hSw.1 j; clear hSw; go_simp; try with_reducible rfl)
        try simp only [Act.put, List.setIfInBounds_toArray, List.set_cons_zero, List.set_cons_succ]
        refine wpAnyH_ready (rs := [20]) (by kernel_rfl) (by simp) (AllReadyH.cons rfl (fun K hK => ?_) AllReadyH.nil)
        go_simp
        refine (HV.out _).mono ?_
        rintro e wv49 ⟨rfl, hv49⟩
        have hS49 := st_S hS37 hv49
        clear hv49
        refine hK.out _ _ hS49 (fun _ => ?_)
        clear hK K
        try simp only [Act.put, List.setIfInBounds_toArray, List.set_cons_zero, List.set_cons_succ]
        refine wpAnyH_take (i := 22) (oi := { dst := some 66, op := Op.binOp BinOp.eql 4 (Operand.tmp 64) (Operand.tmp 65) 4, type := 4, pos := "law.go:79", after := #[{ on := 20, ground := Ground.data }, { on := 21, ground := Ground.data }, { on := 17, ground := Ground.guard }], guard := some (17, true) }) (v := ?_) rfl (by kernel_rfl) (by kernel_rfl) (by kernel_rfl) (fun _ _ _ h => h) (Or.inl ⟨by rfl, ?hy50⟩) hS49 ?_
        case hy50 => (intro V hSw; (try dsimp only at hSw); have hcw := fun j => cell_of_blk hSw.1 j; clear hSw; go_simp; try with_reducible rfl)
        try simp only [Act.put, List.setIfInBounds_toArray, List.set_cons_zero, List.set_cons_succ]
        refine wpAnyH_take (i := 23) (oi := { dst := some 67, op := Op.pick (Operand.tmp 61) (Operand.tmp 66) (Operand.const (Value.bool false)), type := 4, pos := "law.go:79", after := #[{ on := 17, ground := Ground.data }, { on := 22, ground := Ground.data }], guard := none }) (v := ?_) rfl (by kernel_rfl) (by kernel_rfl) (by kernel_rfl) (fun _ _ _ h => h) (Or.inl ⟨by rfl, ?hy51⟩) hS49 ?_
        case hy51 => (intro V hSw; (try dsimp only at hSw); have hcw := fun j => cell_of_blk hSw.1 j; clear hSw; go_simp; try with_reducible rfl)
        try simp only [Act.put, List.setIfInBounds_toArray, List.set_cons_zero, List.set_cons_succ]
        refine wpAnyH_take (i := 24) (oi := { dst := some 68, op := Op.move (Operand.tmp 67), type := 4, pos := "law.go:79", after := #[{ on := 23, ground := Ground.data }, { on := 20, ground := Ground.chain }], guard := none }) (v := ?_) rfl (by kernel_rfl) (by kernel_rfl) (by kernel_rfl) (fun _ _ _ h => h) (Or.inl ⟨by rfl, ?hy52⟩) hS49 ?_
        case hy52 => (intro V hSw; (try dsimp only at hSw); have hcw := fun j => cell_of_blk hSw.1 j; clear hSw; go_simp; try with_reducible rfl)
        try simp only [Act.put, List.setIfInBounds_toArray, List.set_cons_zero, List.set_cons_succ]
        refine wpAnyH_ready (rs := [25]) (by kernel_rfl) (by simp) (AllReadyH.cons rfl (fun K hK => ?_) AllReadyH.nil)
        go_simp
        refine (awake15_any _).mono ?_
        rintro e wv53 ⟨rfl, hv53⟩
        have hS53 := st_S hS49 hv53
        clear hv53
        refine hK.out _ _ hS53 (fun _ => ?_)
        clear hK K
        try simp only [Act.put, List.setIfInBounds_toArray, List.set_cons_zero, List.set_cons_succ]
        refine wpAnyH_take (i := 26) (oi := { dst := some 70, op := Op.pick (Operand.tmp 68) (Operand.tmp 69) (Operand.const (Value.bool false)), type := 4, pos := "law.go:79", after := #[{ on := 24, ground := Ground.data }, { on := 25, ground := Ground.data }], guard := none }) (v := ?_) rfl (by kernel_rfl) (by kernel_rfl) (by kernel_rfl) (fun _ _ _ h => h) (Or.inl ⟨by rfl, ?hy54⟩) hS53 ?_
        case hy54 => (intro V hSw; (try dsimp only at hSw); have hcw := fun j => cell_of_blk hSw.1 j; clear hSw; go_simp; try with_reducible rfl)
        try simp only [Act.put, List.setIfInBounds_toArray, List.set_cons_zero, List.set_cons_succ]
        refine wpAnyH_ready (rs := [27]) (by kernel_rfl) (by simp) (AllReadyH.cons rfl (fun K hK => ?_) AllReadyH.nil)
        go_simp
        refine hK.out _ _ hS53 (fun _ => ?_)
        clear hK K
        try simp only [Act.put, List.setIfInBounds_toArray, List.set_cons_zero, List.set_cons_succ]
        refine wpAnyH_done (by kernel_rfl) ?_ _
        go_wp2_with fail
        go_ret
        exact ⟨rfl, hS53.2.out⟩
theorem levelsChecks_walk (z n : Int) (a b : Ky) (vr : Value) (l : List (Int × Int)) (u : ByteArray) (w : World) (h : IsRr w vr l) (_ : u.size ≤ maxLen) :
    Calls Try.prog 3 #[metaV z n a b vr, .string u] w fun e w' => e = .returned (.bool true) ∧ Below w.heap.size w w' := by
  obtain ⟨va, c, rfl, -, -, -⟩ := id h
  by_cases hb : 60 < l.length ∨ 300 < a.u.size ∨ 300 < b.u.size ∨ 300 < u.size
  · exact checks_big z n a b va l.length c u w hb
  · exact checks_small z n a b va l.length c l u w h (by omega) (by omega) (by omega) (by omega)
end Go.Proofs.Ytjefpogeknbelaa.Tithe
