/- Writes in memory; the document's model: Last, Check: walked. -/
import Derived.Test.YtbnodgoccmhjkaaFlatFrame
namespace Go.Proofs.Ytbnodgoccmhjkaa.Tithe
open Go.RowKit Go.Sort Go.Shelf
set_option linter.unusedVariables false
set_option linter.unusedSimpArgs false
set_option maxRecDepth 100000
abbrev Wr := Value × List Bo
def wrC (r : Wr) : List Value := [r.1]
theorem wrC_len (r : Wr) : (wrC r).length = 1 := rfl
/-- writes: rows of rows of ops -/
structure IsWs (W : World) (v : Value) (rows : List Wr) : Prop where
  out : IsSl wrC 1 W v rows
  row : ∀ r ∈ rows, IsOs W r.1 r.2
theorem IsWs.below {w w' : World} {v : Value} {rows : List Wr} (h : IsWs w v rows) (hb : Below w.heap.size w w') : IsWs w' v rows := ⟨h.out.below hb, fun r hr => (h.row r hr).below hb⟩
def lastN (rows : List Wr) : Nat := (rows.map fun r => r.2.length).sum
theorem lastN_take {rows : List Wr} {k : Nat} {r : Wr} (h : rows[k]? = some r) : lastN (rows.take (k + 1)) = lastN (rows.take k) + r.2.length := by
  unfold lastN
  rw [List.take_add_one, h, List.map_append, List.sum_append]; simp
theorem lastN_le (rows : List Wr) : ∀ k, lastN (rows.take k) ≤ lastN rows := by
  intro k
  have : lastN rows = lastN (rows.take k) + lastN (rows.drop k) := by
    unfold lastN
    rw [← List.sum_append, ← List.map_append, List.take_append_drop]
  omega
theorem bytesO_lt (s : ByteArray) : ∀ x ∈ bytesO s, x < 256 := by
  intro x hx
  unfold bytesO at hx
  obtain ⟨b, -, rfl⟩ := List.mem_map.1 hx
  exact b.toNat_lt
theorem batchB_lt {s : Int} {l : List Bo} (hok : okB s l = true) (hsm : ∀ x ∈ l, x.u.size ≤ 200 ∧ x.v.size ≤ 500) : ∀ x ∈ batchB s l, x < 256 := by
  unfold okB at hok
  simp only [Bool.and_eq_true, decide_eq_true_eq] at hok
  obtain ⟨⟨⟨⟨h1, h2⟩, h3⟩, h4⟩, h5⟩ := hok
  intro x hx
  unfold batchB at hx
  rcases List.mem_append.1 hx with hx | hx
  · rcases List.mem_append.1 hx with hx | hx
    · exact encN_lt (by omega) x hx
    · exact encN_lt (by omega) x hx
  · obtain ⟨y, hy, hx⟩ := List.mem_flatMap.1 hx
    have hoy := List.all_eq_true.1 h5 y hy
    have hsy := hsm y hy
    unfold okO at hoy
    simp only [Bool.and_eq_true, decide_eq_true_eq] at hoy
    obtain ⟨⟨⟨⟨⟨k1, k2⟩, -⟩, -⟩, -⟩, -⟩ := hoy
    unfold opB at hx
    rcases List.mem_cons.1 hx with rfl | hx
    · omega
    · rcases List.mem_append.1 hx with hx | hx
      · rcases List.mem_append.1 hx with hx | hx
        · exact encN_lt (by omega) x hx
        · exact bytesO_lt _ x hx
      · split at hx
        · rcases List.mem_append.1 hx with hx | hx
          · exact encN_lt (by omega) x hx
          · exact bytesO_lt _ x hx
        · cases hx
attribute [local go_sem] Oper.semAt_some
set_option maxHeartbeats 1600000 in
theorem rlast_any (xb : Nat) (wv : Value) (most : Int) (rows : List Wr) (w : World) (hB : w.heap[xb]? = some (.cells #[wv, .int .i64 most] 36 (0, 0))) (h : IsWs w wv rows) (hl : lastN rows ≤ 1000000) :
    Calls Try.prog 29 #[.pointer (some ⟨xb, 0, none⟩)] w fun e w' => e = .returned (.int .i64 (lastN rows : Nat)) ∧ Below w.heap.size w w' := by
  obtain ⟨hsl, hrr⟩ := h
  obtain ⟨a, c, rfl, -, -, -⟩ := id hsl
  obtain ⟨-, hc, hm, hx⟩ := hsl.at
  obtain ⟨n, hn⟩ : ∃ n, n = rows.length := ⟨_, rfl⟩
  rw [← hn] at hc hx hB
  have Hx := Lib.hid hx
  have Hn := Lib.hid hn
  have Hrr := Lib.hid hrr
  have b0 := (cell_of_blk hB 0).trans (show _ = some (.slice a n c) from rfl)
  clear hsl hx hn hrr hB
  go_enter Try.func29, Try.ntmps29
  go_wp2_with fail
  go_loopw [3, 4] (fun sv iv wr => ∃ k : Nat, k ≤ n ∧ iv = .int .i64 k ∧ sv = .int .i64 (lastN (rows.take k) : Nat) ∧ wr = w) (fun _ iv _ => n - (intOf iv).toNat)
  case atStart => exact ⟨0, Nat.zero_le _, rfl, rfl, rfl⟩
  case round =>
    obtain ⟨wo, rfl⟩ : ∃ wo : World, wo = wr := ⟨_, rfl⟩
    obtain ⟨k, hk, rfl, rfl, rfl⟩ := hrel
    by_cases hkn : k < n
    · obtain ⟨be, off, rfl, hcell⟩ := Hx.out (by omega)
      obtain ⟨r, hrk⟩ : ∃ r, rows[k]? = some r := ⟨_, List.getElem?_eq_getElem (by rw [← Hn.out]; exact hkn)⟩
      have d0 : wo.cell? ⟨be, off + k, none⟩ = some r.1 := by
        have := hcell k r hrk 0 _ rfl
        rwa [Nat.mul_one, Nat.add_zero] at this
      obtain ⟨ra, rc, hrv, -, -, -⟩ := id (Hrr.out r (List.mem_of_getElem? hrk))
      rw [hrv] at d0
      have hst := lastN_take hrk
      have hle := lastN_le rows (k + 1)
      obtain ⟨s1, hs1⟩ : ∃ q, q = lastN (rows.take (k + 1)) := ⟨_, rfl⟩
      obtain ⟨s0, hs0⟩ : ∃ q, q = lastN (rows.take k) := ⟨_, rfl⟩
      rw [← hs1] at hst hle
      rw [← hs0] at hst ⊢
      generalize r.2.length = m at *
      have hws : IntKind.i64.wrap ((s0 : Int) + (m : Int)) = (s1 : Int) := (IntWalk.i64_in _ (by omega)).trans (by omega)
      have hkn2 : (k : Int) < (n : Int) := by omega
      have Hs1 := Lib.hid hs1
      clear hcell hrk hrv hst hle hs1 hs0
      go_wp2_with fail
      go_roundw
      case rel => exact ⟨k + 1, by omega, by go_num, by rw [← Hs1.out], by first | rfl | trivial⟩
      case measure => simp [intOf]; omega
    · obtain rfl : n = k := by omega
      go_wp2_with fail
      go_ret
      exact ⟨by rw [Hn.out, List.take_length]; rfl, Below.refl _ _⟩
set_option maxHeartbeats 3200000 in
theorem rcheck_any (xb : Nat) (wv : Value) (most : Int) (rows : List Wr) (v : Value) (l : List Bo) (w : World) (hB : w.heap[xb]? = some (.cells #[wv, .int .i64 most] 36 (0, 0))) (h : IsWs w wv rows) (hl : lastN rows ≤ 1000000) (hv : IsOs w v l) (hsm : ∀ x ∈ l, x.u.size ≤ 200 ∧ x.v.size ≤ 500) :
    Calls Try.prog 26 #[.pointer (some ⟨xb, 0, none⟩), v] w fun e w' => e = .returned (.int .i64 (chkM most (lastN rows : Nat) l)) ∧ Below w.heap.size w w' := by
  obtain ⟨a, c, rfl, -, -, -⟩ := id hv
  have Hlast := Lib.hid (fun (A : World) (hA : Below w.heap.size w A) => rlast_any xb wv most rows A (blk_bels hA hB) (h.below hA) hl)
  have Hv := Lib.hid hv
  have Hsm := Lib.hid hsm
  have HB := Lib.hid hB
  obtain ⟨n, hn⟩ : ∃ n, n = l.length := ⟨_, rfl⟩
  rw [← hn] at Hv ⊢
  obtain ⟨ls, hls⟩ : ∃ q, q = lastN rows := ⟨_, rfl⟩
  rw [← hls] at Hlast hl ⊢
  obtain ⟨sn, hsn⟩ : ∃ q : Nat, q = ls + 1 := ⟨_, rfl⟩
  have hw : IntKind.i64.wrap ((ls : Int) + 1) = (sn : Int) := (IntWalk.i64_in _ (by omega)).trans (by omega)
  have hsi : ((ls : Int) + 1) = (sn : Int) := by omega
  have Hsi := Lib.hid hsi
  have hsl : sn ≤ 1000001 := by omega
  have Hn := Lib.hid hn
  clear hv hsm hn hls hsn hsi
  have L0 := Lib.hid (Hlast.out w (Below.refl _ _))
  go_enter Try.func26, Try.ntmps26
  go_wp2_with fail
  refine L0.out.mono ?_
  rintro e w2 ⟨rfl, hb2⟩
  have HAl := Lib.hid (rall_any (sn : Int) (.slice a n c) l w2 (Hv.out.below hb2) (by omega))
  have Hb2 := Lib.hid hb2
  clear hb2 L0
  go_wp2_with fail
  refine HAl.out.mono ?_
  rintro e w3 ⟨rfl, hb3⟩
  have Hb3 := Lib.hid (Hb2.out.trans (hb3.mono Hb2.out.size))
  clear hb3 HAl Hb2
  cases hok : okB (sn : Int) l with
  | false =>
    go_wp2_with fail
    go_ret
    exact ⟨by unfold chkM; rw [Hsi.out, hok]; rfl, Hb3.out⟩
  | true =>
    have Hok := Lib.hid hok
    have hlt := batchB_lt hok Hsm.out
    have hok2 := hok
    unfold okB at hok2
    simp only [Bool.and_eq_true, decide_eq_true_eq] at hok2
    have hle := batchB_le (s := (sn : Int)) Hsm.out hok2.1.1.1.2
    have m0 := (cell_of_blk (blk_bels Hb3.out HB.out) 1).trans (show _ = some (.int .i64 most) from rfl)
    have L1 := Lib.hid (fun (A : World) (hA : Below w3.heap.size w3 A) => Hlast.out A (Hb3.out.trans (hA.mono Hb3.out.size)))
    have R1 := Lib.hid (fun (A : World) (hA : Below w3.heap.size w3 A) => r10bytes_any sn (.slice a n c) l A (Hv.out.below (Hb3.out.trans (hA.mono Hb3.out.size))) hok Hsm.out (by omega))
    obtain ⟨BL, hBL⟩ : ∃ q, q = batchB (sn : Int) l := ⟨_, rfl⟩
    rw [← hBL] at hlt hle R1
    have HBL := Lib.hid hBL
    have Hlt := Lib.hid hlt
    have hsz : rsz BL.length = 4 + ((encN BL.length).length + BL.length) := by
      unfold rsz
      rw [encN_wsz (by omega)]; omega
    obtain ⟨rn, hrn⟩ : ∃ q, q = rsz BL.length := ⟨_, rfl⟩
    rw [← hrn] at hsz
    have Hrn := Lib.hid hrn
    have Hsz := Lib.hid hsz
    clear hok hok2 hlt hBL hsz hrn
    go_upto_region 3 with fail
    by_cases hmo : most < (rn : Int)
    · have d0 : decide ((rn : Int) > most) = true := decide_eq_true (by omega)
      have d1 : decide (most < (rn : Int)) = true := decide_eq_true hmo
      refine wp_region_held_drew (S := fun V' => Hid (Below w3.heap.size w3 V')) (by kernel_rfl) (Lib.hid ((Below.refl _ _).drew)) (fun hS0 => ?_)
      refine wpAnyH_take (i := 0) (oi := { dst := some 11, op := Op.move (Operand.tmp 0), type := 26, pos := "ref.go:30", after := #[], guard := none }) (v := ?_) rfl (by kernel_rfl) (by kernel_rfl) (by kernel_rfl) (fun _ _ _ h => h) (Or.inl ⟨by rfl, ?hy1⟩) hS0 ?_
      case hy1 => (intro V hSw; (try dsimp only at hSw); clear hSw; go_simp; try with_reducible rfl)
      try simp only [Act.put, List.setIfInBounds_toArray, List.set_cons_zero, List.set_cons_succ]
      refine wpAnyH_take (i := 3) (oi := { dst := some 14, op := Op.move (Operand.tmp 1), type := 68, pos := "ref.go:30", after := #[], guard := none }) (v := ?_) rfl (by kernel_rfl) (by kernel_rfl) (by kernel_rfl) (fun _ _ _ h => h) (Or.inl ⟨by rfl, ?hy2⟩) hS0 ?_
      case hy2 => (intro V hSw; (try dsimp only at hSw); clear hSw; go_simp; try with_reducible rfl)
      try simp only [Act.put, List.setIfInBounds_toArray, List.set_cons_zero, List.set_cons_succ]
      refine wpAnyH_take (i := 7) (oi := { dst := some 18, op := Op.move (Operand.tmp 0), type := 26, pos := "ref.go:30", after := #[], guard := none }) (v := ?_) rfl (by kernel_rfl) (by kernel_rfl) (by kernel_rfl) (fun _ _ _ h => h) (Or.inl ⟨by rfl, ?hy3⟩) hS0 ?_
      case hy3 => (intro V hSw; (try dsimp only at hSw); clear hSw; go_simp; try with_reducible rfl)
      try simp only [Act.put, List.setIfInBounds_toArray, List.set_cons_zero, List.set_cons_succ]
      refine wpAnyH_take (i := 8) (oi := { dst := some 19, op := Op.nilCheck (Operand.tmp 18), type := 0, pos := "ref.go:30", after := #[{ on := 7, ground := Ground.data }], guard := none }) (v := ?_) rfl (by kernel_rfl) (by kernel_rfl) (by kernel_rfl) (fun _ _ _ h => h) (Or.inl ⟨by rfl, ?hy4⟩) hS0 ?_
      case hy4 => (intro V hSw; (try dsimp only at hSw); clear hSw; go_simp; try with_reducible rfl)
      try simp only [Act.put, List.setIfInBounds_toArray, List.set_cons_zero, List.set_cons_succ]
      refine wpAnyH_take (i := 9) (oi := { dst := some 20, op := Op.fieldAddr 36 (Operand.tmp 19) 1, type := 0, pos := "ref.go:30", after := #[{ on := 8, ground := Ground.data }], guard := none }) (v := ?_) rfl (by kernel_rfl) (by kernel_rfl) (by kernel_rfl) (fun _ _ _ h => h) (Or.inl ⟨by rfl, ?hy5⟩) hS0 ?_
      case hy5 => (intro V hSw; (try dsimp only at hSw); clear hSw; go_simp; try with_reducible rfl)
      try simp only [Act.put, List.setIfInBounds_toArray, List.set_cons_zero, List.set_cons_succ]
      refine wpAnyH_take (i := 10) (oi := { dst := some 21, op := Op.load 3 (Operand.tmp 20), type := 3, pos := "ref.go:30", after := #[{ on := 9, ground := Ground.data }], guard := none }) (v := ?_) rfl (by kernel_rfl) (by kernel_rfl) (by kernel_rfl) (fun _ _ _ h => h) (Or.inl ⟨by rfl, ?hy6⟩) hS0 ?_
      case hy6 => (intro V hSw; (try dsimp only at hSw); have q0 := grow_cellO hSw.out (block_lt_of_cell m0) m0; clear hSw; go_simp; try with_reducible rfl)
      try simp only [Act.put, List.setIfInBounds_toArray, List.set_cons_zero, List.set_cons_succ]
      refine wpAnyH_ready (rs := [1]) (by kernel_rfl) (by simp) (AllReadyH.cons rfl (fun K hK => ?_) AllReadyH.nil)
      go_simp
      refine (L1.out _ hS0.out).mono ?_
      rintro e wv7 ⟨rfl, hv7⟩
      have hS7 := Lib.hid (hS0.out.trans (hv7.mono hS0.out.size))
      clear hv7
      refine hK.out _ _ hS7 (fun _ => ?_)
      clear hK K
      try simp only [Act.put, List.setIfInBounds_toArray, List.set_cons_zero, List.set_cons_succ]
      refine wpAnyH_take (i := 2) (oi := { dst := some 13, op := Op.binOp BinOp.add 3 (Operand.tmp 12) (Operand.const (Value.int IntKind.i64 1)) 3, type := 3, pos := "ref.go:30", after := #[{ on := 1, ground := Ground.data }], guard := none }) (v := ?_) rfl (by kernel_rfl) (by kernel_rfl) (by kernel_rfl) (fun _ _ _ h => h) (Or.inl ⟨by rfl, ?hy8⟩) hS7 ?_
      case hy8 => (intro V hSw; (try dsimp only at hSw); clear hSw; go_simp; try with_reducible rfl)
      try simp only [Act.put, List.setIfInBounds_toArray, List.set_cons_zero, List.set_cons_succ]
      refine wpAnyH_ready (rs := [4]) (by kernel_rfl) (by simp) (AllReadyH.cons rfl (fun K hK => ?_) AllReadyH.nil)
      go_simp
      refine (R1.out _ hS7.out).mono ?_
      rintro e wv9 ⟨vb9, rfl, hown9, hv9⟩
      have hS9 := Lib.hid (hS7.out.trans (hv9.mono hS7.out.size))
      have HY := Lib.hid (isSl_own byteC_len hown9)
      obtain ⟨ba9, bc9, rfl⟩ := own_slice hown9
      clear hv9 hown9
      refine hK.out _ _ hS9 (fun _ => ?_)
      clear hK K
      try simp only [Act.put, List.setIfInBounds_toArray, List.set_cons_zero, List.set_cons_succ]
      refine wpAnyH_ready (rs := [5]) (by kernel_rfl) (by simp) (AllReadyH.cons rfl (fun K hK => ?_) AllReadyH.nil)
      go_simp
      refine (frame_any _ BL _ HY.out (by omega) Hlt.out).mono ?_
      rintro e wv10 ⟨vf10, bf10, rfl, hown10, hfl10, hv10⟩
      rw [← Hsz.out] at hfl10
      rw [OwnBs, hfl10] at hown10
      obtain ⟨fa10, fc10, rfl⟩ := own_slice hown10
      have hS10 := Lib.hid (hS9.out.trans (hv10.mono hS9.out.size))
      clear hv10 hown10 hfl10
      refine hK.out _ _ hS10 (fun _ => ?_)
      clear hK K
      try simp only [Act.put, List.setIfInBounds_toArray, List.set_cons_zero, List.set_cons_succ]
      refine wpAnyH_take (i := 6) (oi := { dst := some 17, op := Op.call { callee := Callee.builtin Builtin.len, args := #[Operand.tmp 16], argTypes := #[95] }, type := 3, pos := "ref.go:30", after := #[{ on := 5, ground := Ground.data }], guard := none }) (v := ?_) rfl (by kernel_rfl) (by kernel_rfl) (by kernel_rfl) (fun _ _ _ h => h) (Or.inl ⟨by rfl, ?hy11⟩) hS10 ?_
      case hy11 => (intro V hSw; (try dsimp only at hSw); clear hSw; go_simp; try with_reducible rfl)
      try simp only [Act.put, List.setIfInBounds_toArray, List.set_cons_zero, List.set_cons_succ]
      refine wpAnyH_take (i := 11) (oi := { dst := some 22, op := Op.binOp BinOp.gtr 3 (Operand.tmp 17) (Operand.tmp 21) 3, type := 4, pos := "ref.go:30", after := #[{ on := 6, ground := Ground.data }, { on := 10, ground := Ground.data }], guard := none }) (v := ?_) rfl (by kernel_rfl) (by kernel_rfl) (by kernel_rfl) (fun _ _ _ h => h) (Or.inl ⟨by rfl, ?hy12⟩) hS10 ?_
      case hy12 => (intro V hSw; (try dsimp only at hSw); clear hSw; go_simp; try with_reducible rfl)
      try simp only [Act.put, List.setIfInBounds_toArray, List.set_cons_zero, List.set_cons_succ]
      refine wpAnyH_done (by kernel_rfl) ?_ _
      go_wp2_with fail
      go_ret
      exact ⟨by unfold chkM; rw [Hsi.out, Hok.out, ← HBL.out, ← Hrn.out, if_pos hmo]; rfl, Hb3.out.trans (hS10.out.mono Hb3.out.size)⟩
    · have d0 : decide ((rn : Int) > most) = false := decide_eq_false (by omega)
      have d1 : decide (most < (rn : Int)) = false := decide_eq_false hmo
      refine wp_region_held_drew (S := fun V' => Hid (Below w3.heap.size w3 V')) (by kernel_rfl) (Lib.hid ((Below.refl _ _).drew)) (fun hS0 => ?_)
      refine wpAnyH_take (i := 0) (oi := { dst := some 11, op := Op.move (Operand.tmp 0), type := 26, pos := "ref.go:30", after := #[], guard := none }) (v := ?_) rfl (by kernel_rfl) (by kernel_rfl) (by kernel_rfl) (fun _ _ _ h => h) (Or.inl ⟨by rfl, ?hy13⟩) hS0 ?_
      case hy13 => (intro V hSw; (try dsimp only at hSw); clear hSw; go_simp; try with_reducible rfl)
      try simp only [Act.put, List.setIfInBounds_toArray, List.set_cons_zero, List.set_cons_succ]
      refine wpAnyH_take (i := 3) (oi := { dst := some 14, op := Op.move (Operand.tmp 1), type := 68, pos := "ref.go:30", after := #[], guard := none }) (v := ?_) rfl (by kernel_rfl) (by kernel_rfl) (by kernel_rfl) (fun _ _ _ h => h) (Or.inl ⟨by rfl, ?hy14⟩) hS0 ?_
      case hy14 => (intro V hSw; (try dsimp only at hSw); clear hSw; go_simp; try with_reducible rfl)
      try simp only [Act.put, List.setIfInBounds_toArray, List.set_cons_zero, List.set_cons_succ]
      refine wpAnyH_take (i := 7) (oi := { dst := some 18, op := Op.move (Operand.tmp 0), type := 26, pos := "ref.go:30", after := #[], guard := none }) (v := ?_) rfl (by kernel_rfl) (by kernel_rfl) (by kernel_rfl) (fun _ _ _ h => h) (Or.inl ⟨by rfl, ?hy15⟩) hS0 ?_
      case hy15 => (intro V hSw; (try dsimp only at hSw); clear hSw; go_simp; try with_reducible rfl)
      try simp only [Act.put, List.setIfInBounds_toArray, List.set_cons_zero, List.set_cons_succ]
      refine wpAnyH_take (i := 8) (oi := { dst := some 19, op := Op.nilCheck (Operand.tmp 18), type := 0, pos := "ref.go:30", after := #[{ on := 7, ground := Ground.data }], guard := none }) (v := ?_) rfl (by kernel_rfl) (by kernel_rfl) (by kernel_rfl) (fun _ _ _ h => h) (Or.inl ⟨by rfl, ?hy16⟩) hS0 ?_
      case hy16 => (intro V hSw; (try dsimp only at hSw); clear hSw; go_simp; try with_reducible rfl)
      try simp only [Act.put, List.setIfInBounds_toArray, List.set_cons_zero, List.set_cons_succ]
      refine wpAnyH_take (i := 9) (oi := { dst := some 20, op := Op.fieldAddr 36 (Operand.tmp 19) 1, type := 0, pos := "ref.go:30", after := #[{ on := 8, ground := Ground.data }], guard := none }) (v := ?_) rfl (by kernel_rfl) (by kernel_rfl) (by kernel_rfl) (fun _ _ _ h => h) (Or.inl ⟨by rfl, ?hy17⟩) hS0 ?_
      case hy17 => (intro V hSw; (try dsimp only at hSw); clear hSw; go_simp; try with_reducible rfl)
      try simp only [Act.put, List.setIfInBounds_toArray, List.set_cons_zero, List.set_cons_succ]
      refine wpAnyH_take (i := 10) (oi := { dst := some 21, op := Op.load 3 (Operand.tmp 20), type := 3, pos := "ref.go:30", after := #[{ on := 9, ground := Ground.data }], guard := none }) (v := ?_) rfl (by kernel_rfl) (by kernel_rfl) (by kernel_rfl) (fun _ _ _ h => h) (Or.inl ⟨by rfl, ?hy18⟩) hS0 ?_
      case hy18 => (intro V hSw; (try dsimp only at hSw); have q0 := grow_cellO hSw.out (block_lt_of_cell m0) m0; clear hSw; go_simp; try with_reducible rfl)
      try simp only [Act.put, List.setIfInBounds_toArray, List.set_cons_zero, List.set_cons_succ]
      refine wpAnyH_ready (rs := [1]) (by kernel_rfl) (by simp) (AllReadyH.cons rfl (fun K hK => ?_) AllReadyH.nil)
      go_simp
      refine (L1.out _ hS0.out).mono ?_
      rintro e wv19 ⟨rfl, hv19⟩
      have hS19 := Lib.hid (hS0.out.trans (hv19.mono hS0.out.size))
      clear hv19
      refine hK.out _ _ hS19 (fun _ => ?_)
      clear hK K
      try simp only [Act.put, List.setIfInBounds_toArray, List.set_cons_zero, List.set_cons_succ]
      refine wpAnyH_take (i := 2) (oi := { dst := some 13, op := Op.binOp BinOp.add 3 (Operand.tmp 12) (Operand.const (Value.int IntKind.i64 1)) 3, type := 3, pos := "ref.go:30", after := #[{ on := 1, ground := Ground.data }], guard := none }) (v := ?_) rfl (by kernel_rfl) (by kernel_rfl) (by kernel_rfl) (fun _ _ _ h => h) (Or.inl ⟨by rfl, ?hy20⟩) hS19 ?_
      case hy20 => (intro V hSw; (try dsimp only at hSw); clear hSw; go_simp; try with_reducible rfl)
      try simp only [Act.put, List.setIfInBounds_toArray, List.set_cons_zero, List.set_cons_succ]
      refine wpAnyH_ready (rs := [4]) (by kernel_rfl) (by simp) (AllReadyH.cons rfl (fun K hK => ?_) AllReadyH.nil)
      go_simp
      refine (R1.out _ hS19.out).mono ?_
      rintro e wv21 ⟨vb21, rfl, hown21, hv21⟩
      have hS21 := Lib.hid (hS19.out.trans (hv21.mono hS19.out.size))
      have HY := Lib.hid (isSl_own byteC_len hown21)
      obtain ⟨ba21, bc21, rfl⟩ := own_slice hown21
      clear hv21 hown21
      refine hK.out _ _ hS21 (fun _ => ?_)
      clear hK K
      try simp only [Act.put, List.setIfInBounds_toArray, List.set_cons_zero, List.set_cons_succ]
      refine wpAnyH_ready (rs := [5]) (by kernel_rfl) (by simp) (AllReadyH.cons rfl (fun K hK => ?_) AllReadyH.nil)
      go_simp
      refine (frame_any _ BL _ HY.out (by omega) Hlt.out).mono ?_
      rintro e wv22 ⟨vf22, bf22, rfl, hown22, hfl22, hv22⟩
      rw [← Hsz.out] at hfl22
      rw [OwnBs, hfl22] at hown22
      obtain ⟨fa22, fc22, rfl⟩ := own_slice hown22
      have hS22 := Lib.hid (hS21.out.trans (hv22.mono hS21.out.size))
      clear hv22 hown22 hfl22
      refine hK.out _ _ hS22 (fun _ => ?_)
      clear hK K
      try simp only [Act.put, List.setIfInBounds_toArray, List.set_cons_zero, List.set_cons_succ]
      refine wpAnyH_take (i := 6) (oi := { dst := some 17, op := Op.call { callee := Callee.builtin Builtin.len, args := #[Operand.tmp 16], argTypes := #[95] }, type := 3, pos := "ref.go:30", after := #[{ on := 5, ground := Ground.data }], guard := none }) (v := ?_) rfl (by kernel_rfl) (by kernel_rfl) (by kernel_rfl) (fun _ _ _ h => h) (Or.inl ⟨by rfl, ?hy23⟩) hS22 ?_
      case hy23 => (intro V hSw; (try dsimp only at hSw); clear hSw; go_simp; try with_reducible rfl)
      try simp only [Act.put, List.setIfInBounds_toArray, List.set_cons_zero, List.set_cons_succ]
      refine wpAnyH_take (i := 11) (oi := { dst := some 22, op := Op.binOp BinOp.gtr 3 (Operand.tmp 17) (Operand.tmp 21) 3, type := 4, pos := "ref.go:30", after := #[{ on := 6, ground := Ground.data }, { on := 10, ground := Ground.data }], guard := none }) (v := ?_) rfl (by kernel_rfl) (by kernel_rfl) (by kernel_rfl) (fun _ _ _ h => h) (Or.inl ⟨by rfl, ?hy24⟩) hS22 ?_
      case hy24 => (intro V hSw; (try dsimp only at hSw); clear hSw; go_simp; try with_reducible rfl)
      try simp only [Act.put, List.setIfInBounds_toArray, List.set_cons_zero, List.set_cons_succ]
      refine wpAnyH_done (by kernel_rfl) ?_ _
      go_wp2_with fail
      go_ret
      exact ⟨by unfold chkM; rw [Hsi.out, Hok.out, ← HBL.out, ← Hrn.out, if_neg (show ¬ most < (rn : Int) from by omega)]; rfl, Hb3.out.trans (hS22.out.mono Hb3.out.size)⟩
end Go.Proofs.Ytbnodgoccmhjkaa.Tithe
