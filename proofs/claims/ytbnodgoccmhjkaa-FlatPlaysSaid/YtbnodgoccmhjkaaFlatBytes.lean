/- A batch's bytes: walked. -/
import Derived.Test.YtbnodgoccmhjkaaFlatWire
import Derived.Lib.ConvBytes
import Derived.Deep.RegionHeld3
namespace Go.Proofs.Ytbnodgoccmhjkaa.Tithe
open Go.RowKit Go.Sort Go.Shelf
set_option linter.unusedVariables false
set_option linter.unusedSimpArgs false
set_option maxRecDepth 100000
def bytesO (s : ByteArray) : List Nat := s.data.toList.map UInt8.toNat
theorem bytesO_len (s : ByteArray) : (bytesO s).length = s.size := by unfold bytesO; rw [List.length_map]; obtain ⟨⟨l⟩⟩ := s; rfl
theorem conv_str (s : ByteArray) (W : World) (hs : s.size ≤ 1000000) : ∃ (c : Nat) (W' : World), (convert 9 95 (.string s)).run Try.prog W = .ok (.slice (some ⟨W.heap.size, 0, none⟩) s.size c) W' ∧ IsBs W' (.slice (some ⟨W.heap.size, 0, none⟩) s.size c) (bytesO s) ∧ Below W.heap.size W W' ∧ W.heap.size < W'.heap.size ∧ (∀ wb, wb < W.heap.size → FarW W W' wb) := by
  refine ⟨_, _, Lib.run_convert_string_bytes W 9 95 5 s Try.underlying9 Try.underlying95 Try.underlying5, ?_, ?_, ?_, ?_⟩
  · refine ⟨_, _, by rw [bytesO_len], by rw [bytesO_len]; exact grownCap_ge _ _ _ _, grownCap_le_maxLen _ _ _ _ (by unfold maxLen; omega), fun _ => ⟨_, _, rfl, fun i x hi j y hj => ?_⟩⟩
    have hlt := (List.getElem?_eq_some_iff.1 hi).1
    rw [bytesO_len] at hlt
    have hc := Lib.bytesWorld_cell W 5 s i hlt
    obtain rfl : j = 0 := by
      rcases Nat.eq_zero_or_pos j with q | q
      · exact q
      · rw [List.getElem?_eq_none (by rw [byteC_len]; omega)] at hj; cases hj
    injection hj with hj
    rw [Nat.zero_add, Nat.mul_one, Nat.add_zero, hc, ← hj]
    unfold bytesO at hi
    rw [List.getElem?_map] at hi
    cases hq : s.data.toList[i]? with
    | none => rw [hq] at hi; cases hi
    | some z =>
      rw [hq] at hi
      injection hi with hi
      rw [List.getD_eq_getElem?_getD, hq, ← hi]; rfl
  · exact ⟨rfl, rfl, rfl, by rw [Lib.bytesWorld_size]; omega, fun k hk => Lib.bytesWorld_at_old W _ s k hk⟩
  · rw [Lib.bytesWorld_size]; omega
  · intro wb hwb t x hx hne hno
    exact ⟨(Lib.bytesWorld_at_old W _ s t (blk_lt hx)).trans hx, fun v b hv => hno v b ((Lib.bytesWorld_at_old W _ s wb hwb).symm.trans hv)⟩
/-! ### what a batch's bytes are -/
def opB (x : Bo) : List Nat := x.k.toNat :: ((encN x.u.size ++ bytesO x.u) ++ (if x.k = 1 then encN x.v.size ++ bytesO x.v else []))
theorem opB_put (u v : ByteArray) : opB ⟨1, u, v⟩ = 1 :: ((encN u.size ++ bytesO u) ++ (encN v.size ++ bytesO v)) := by unfold opB; simp
theorem opB_del (u v : ByteArray) : opB ⟨2, u, v⟩ = 2 :: (encN u.size ++ bytesO u) := by unfold opB; simp
def batchB (s : Int) (l : List Bo) : List Nat := (encN s.toNat ++ encN l.length) ++ l.flatMap opB
theorem encN_le (n : Nat) : (encN n).length ≤ 10 := by
  have : ∀ f k, (encF f k).length ≤ f + 1 := by
    intro f
    induction f with
    | zero => intro k; show ([k] : List Nat).length ≤ 1; simp
    | succ f ih =>
      intro k
      show (if 127 < k then (k % 128 + 128) :: encF f (k / 128) else [k]).length ≤ f + 1 + 1
      split
      · rw [List.length_cons]; have := ih (k / 128); omega
      · simp
  exact this 9 n
theorem opB_le {x : Bo} (hu : x.u.size ≤ 200) (hv : x.v.size ≤ 500) : (opB x).length ≤ 721 := by
  unfold opB
  have h1 := encN_le x.u.size
  have h2 := encN_le x.v.size
  rw [List.length_cons, List.length_append, List.length_append, bytesO_len]
  split
  · rw [List.length_append, bytesO_len]; omega
  · simp; omega
theorem ops_le {l : List Bo} (h : ∀ x ∈ l, x.u.size ≤ 200 ∧ x.v.size ≤ 500) : (l.flatMap opB).length ≤ 721 * l.length := by
  induction l with
  | nil => simp
  | cons x l ih =>
    rw [List.flatMap_cons, List.length_append, List.length_cons]
    have := ih (fun y hy => h y (List.mem_cons_of_mem _ hy))
    have := opB_le (h x List.mem_cons_self).1 (h x List.mem_cons_self).2
    omega
theorem batchB_le {s : Int} {l : List Bo} (h : ∀ x ∈ l, x.u.size ≤ 200 ∧ x.v.size ≤ 500) (hl : l.length ≤ 64) : (batchB s l).length ≤ 46200 := by
  unfold batchB
  have h1 := encN_le s.toNat
  have h2 := encN_le l.length
  have := ops_le h
  rw [List.length_append, List.length_append]
  omega
theorem IsWr.bel {w w' : World} {base wb : Nat} {bs : List Nat} (h : IsWr w base wb bs) (hb : Below w.heap.size w w') : IsWr w' base wb bs := by
  obtain ⟨v, hblk, hown⟩ := h.ex
  exact ⟨⟨v, blk_bels hb hblk, own_below hown hb⟩, h.lt, Nat.le_trans h.le hb.size⟩
theorem IsWr.notown {w w' : World} {base wb : Nat} {bs : List Nat} (h : IsWr w base wb bs) (hb : Below w.heap.size w w') {s : Nat} (hs : w.heap.size ≤ s) : NotOwn w' wb s := by
  obtain ⟨v, hblk, hown⟩ := h.ex
  intro v2 b hv e
  have h2 := blk_bels hb hblk
  rw [h2] at hv
  injection hv with hv
  injection hv with hv
  have e0 : (some v : Option Value) = some v2 := congrArg (fun (q : Array Value) => q[0]?) hv
  injection e0 with e0
  subst e0
  have := (hown.lt s e).2
  omega
attribute [local go_sem] Oper.semAt_some
set_option maxHeartbeats 6400000 in
theorem bbytes_any (s : Int) (v : Value) (l : List Bo) (w : World) (h : IsOs w v l) (hs : -9223372036854775808 ≤ s ∧ s ≤ 9223372036854775807) (hsm : ∀ x ∈ l, x.u.size ≤ 200 ∧ x.v.size ≤ 500) :
    Calls Try.prog 47 #[.agg #[.int .i64 s, v]] w fun e w' => Hid ((okB s l = false ∧ e = .returned (.tuple #[.slice none 0 0, .int .i64 100]) ∨ okB s l = true ∧ ∃ v', e = .returned (.tuple #[v', .int .i64 0]) ∧ w'.ownsRow w.heap.size 5 1 v' (batchB s l).length (flat byteC (batchB s l))) ∧ Below w.heap.size w w') := by
  obtain ⟨a, c, rfl, -, -, -⟩ := id h
  obtain ⟨-, hc, hm, hx⟩ := h.at
  obtain ⟨n, hn⟩ : ∃ n, n = l.length := ⟨_, rfl⟩
  have H := Lib.hid h
  rw [← hn] at H hc hx ⊢
  have Hx := Lib.hid hx
  have Hn := Lib.hid hn
  have Hsm := Lib.hid hsm
  have HB1 := Lib.hid (blk_of_alloc w (.cells #[.int .i64 s, .slice a n c] 100))
  have Hb1 := Lib.hid ((Below.refl w.heap.size w).alloc (Nat.le_refl _) (.cells #[.int .i64 s, .slice a n c] 100))
  obtain ⟨bx, hbx⟩ : ∃ o, o = w.heap.size := ⟨_, rfl⟩
  have Hbx := Lib.hid hbx
  rw [← hbx] at HB1
  clear h hx hn hsm hbx
  go_enter Try.func47, Try.ntmps47
  go_upto_region 1 with fail
  rw [← Hbx.out]
  generalize w.alloc (.cells #[.int .i64 s, .slice a n c] 100) = W1 at *
  have b0 := (cell_of_blk HB1.out 0).trans (show _ = some (.int .i64 s) from rfl)
  have b1 := (cell_of_blk HB1.out 1).trans (show _ = some (.slice a n c) from rfl)
  have Hck := Lib.hid (bcheck_any s (.slice a n c) l W1 (H.out.below Hb1.out) hs)
  go_wp2_with fail
  refine Hck.out.mono ?_
  rintro e w2 ⟨rfl, hb2⟩
  have HB2 := Lib.hid (blk_bels hb2 HB1.out)
  have Hb2 := Lib.hid (Hb1.out.trans (hb2.mono Hb1.out.size))
  clear hb2 b0 b1 Hck HB1 Hb1
  unfold chkB
  cases hok : okB s l with
  | false =>
    go_wp2_with fail
    go_ret2
    exact Lib.hid ⟨.inl ⟨hok, rfl⟩, Hb2.out⟩
  | true =>
    have hok2 := hok
    unfold okB at hok2
    simp only [Bool.and_eq_true, decide_eq_true_eq] at hok2
    obtain ⟨⟨⟨⟨hn1, hn64⟩, hs0⟩, hs1⟩, hall⟩ := hok2
    rw [← Hn.out] at hn1 hn64
    obtain ⟨sn, hsn⟩ : ∃ sn : Nat, s = (sn : Int) := ⟨s.toNat, by omega⟩
    have Hall := Lib.hid (List.all_eq_true.1 hall)
    have Hok := Lib.hid hok
    subst hsn
    have hsn2 : sn < 9223372036854775808 := by omega
    have HB3 := Lib.hid (blk_old HB2.out (.cells #[.slice none 0 0, .bool false] 113))
    have HW3 := Lib.hid (blk_of_alloc w2 (.cells #[.slice none 0 0, .bool false] 113))
    have Hb3 := Lib.hid (Hb2.out.alloc Hb2.out.size (.cells #[.slice none 0 0, .bool false] 113))
    have hs3 : (w2.alloc (.cells #[.slice none 0 0, .bool false] 113)).heap.size = w2.heap.size + 1 := World.size_alloc _ _
    have hbl : bx < w2.heap.size := blk_lt HB2.out
    obtain ⟨wb, hwb⟩ : ∃ o, o = w2.heap.size := ⟨_, rfl⟩
    have Hwb := Lib.hid hwb
    rw [← hwb] at HW3 hs3 hbl
    have HR3 : Hid (IsWr (w2.alloc (.cells #[.slice none 0 0, .bool false] 113)) (wb + 1) wb []) := Lib.hid ⟨⟨_, HW3.out, World.ownsRow_nil _ _ _ _⟩, Nat.lt_succ_self _, by rw [hs3]; exact Nat.le_refl _⟩
    have hwle : w.heap.size ≤ wb := by rw [hwb]; exact Hb2.out.size
    have Hwle := Lib.hid hwle
    have Hbl := Lib.hid hbl
    clear hwb hok hall hs3 HB2 Hb2 hwle hbl
    go_upto_region 5 with fail
    rw [← Hwb.out]
    generalize w2.alloc (.cells #[.slice none 0 0, .bool false] 113) = W3 at *
    clear Hwb HW3
    have b0 := (cell_of_blk HB3.out 0).trans (show _ = some (.int .i64 (sn : Int)) from rfl)
    have b1 := (cell_of_blk HB3.out 1).trans (show _ = some (.slice a n c) from rfl)
    have HR3d : Hid (IsWr W3.drew (wb + 1) wb []) := Lib.hid ⟨HR3.out.ex, HR3.out.lt, HR3.out.le⟩
    refine wp_region_held_drew (S := fun V' => Hid (Below wb W3 V')) (by kernel_rfl) (Lib.hid ((Below.refl _ _).drew)) (fun hS0 => ?_)
    refine wpAnyH_take (i := 0) (oi := { dst := some 13, op := Op.fieldAddr 100 (Operand.tmp 1) 0, type := 0, pos := "batch.go:58", after := #[], guard := none }) (v := ?_) rfl (by kernel_rfl) (by kernel_rfl) (by kernel_rfl) (fun _ _ _ h => h) (Or.inl ⟨by rfl, ?hy1⟩) hS0 ?_
    case hy1 => (intro V hSw; (try dsimp only at hSw); clear hSw; go_simp; try with_reducible rfl)
    try simp only [Act.put, List.setIfInBounds_toArray, List.set_cons_zero, List.set_cons_succ]
    refine wpAnyH_take (i := 1) (oi := { dst := some 14, op := Op.load 3 (Operand.tmp 13), type := 3, pos := "batch.go:58", after := #[{ on := 0, ground := Ground.data }], guard := none }) (v := ?_) rfl (by kernel_rfl) (by kernel_rfl) (by kernel_rfl) (fun _ _ _ h => h) (Or.inl ⟨by rfl, ?hy2⟩) hS0 ?_
    case hy2 => (intro V hSw; (try dsimp only at hSw); have q0 := (hSw.out.cell (p := ⟨bx, 0, none⟩) Hbl.out).trans b0; have q1 := (hSw.out.cell (p := ⟨bx, 1, none⟩) Hbl.out).trans b1; clear hSw; go_simp; try with_reducible rfl)
    try simp only [Act.put, List.setIfInBounds_toArray, List.set_cons_zero, List.set_cons_succ]
    refine wpAnyH_take (i := 3) (oi := { dst := some 16, op := Op.fieldAddr 100 (Operand.tmp 1) 1, type := 0, pos := "batch.go:58", after := #[], guard := none }) (v := ?_) rfl (by kernel_rfl) (by kernel_rfl) (by kernel_rfl) (fun _ _ _ h => h) (Or.inl ⟨by rfl, ?hy3⟩) hS0 ?_
    case hy3 => (intro V hSw; (try dsimp only at hSw); clear hSw; go_simp; try with_reducible rfl)
    try simp only [Act.put, List.setIfInBounds_toArray, List.set_cons_zero, List.set_cons_succ]
    refine wpAnyH_take (i := 4) (oi := { dst := some 17, op := Op.load 37 (Operand.tmp 16), type := 37, pos := "batch.go:58", after := #[{ on := 3, ground := Ground.data }], guard := none }) (v := ?_) rfl (by kernel_rfl) (by kernel_rfl) (by kernel_rfl) (fun _ _ _ h => h) (Or.inl ⟨by rfl, ?hy4⟩) hS0 ?_
    case hy4 => (intro V hSw; (try dsimp only at hSw); have q0 := (hSw.out.cell (p := ⟨bx, 0, none⟩) Hbl.out).trans b0; have q1 := (hSw.out.cell (p := ⟨bx, 1, none⟩) Hbl.out).trans b1; clear hSw; go_simp; try with_reducible rfl)
    try simp only [Act.put, List.setIfInBounds_toArray, List.set_cons_zero, List.set_cons_succ]
    refine wpAnyH_take (i := 5) (oi := { dst := some 18, op := Op.call { callee := Callee.builtin Builtin.len, args := #[Operand.tmp 17], argTypes := #[37] }, type := 3, pos := "batch.go:58", after := #[{ on := 4, ground := Ground.data }], guard := none }) (v := ?_) rfl (by kernel_rfl) (by kernel_rfl) (by kernel_rfl) (fun _ _ _ h => h) (Or.inl ⟨by rfl, ?hy5⟩) hS0 ?_
    case hy5 => (intro V hSw; (try dsimp only at hSw); clear hSw; go_simp; try with_reducible rfl)
    try simp only [Act.put, List.setIfInBounds_toArray, List.set_cons_zero, List.set_cons_succ]
    refine wpAnyH_ready (rs := [2]) (by kernel_rfl) (by simp) (AllReadyH.cons rfl (fun K hK => ?_) AllReadyH.nil)
    go_simp
    refine (wnum_any _ (wb + 1) wb [] sn HR3d.out hsn2 (by simp)).mono ?_
    rintro e wv6 ⟨rfl, hw6, hv6, -⟩
    have hS6 := Lib.hid (hS0.out.trans hv6)
    have HWr6 := Lib.hid hw6
    clear hv6 hw6
    refine hK.out _ _ hS6 (fun _ => ?_)
    clear hK K
    try simp only [Act.put, List.setIfInBounds_toArray, List.set_cons_zero, List.set_cons_succ]
    refine wpAnyH_ready (rs := [6]) (by kernel_rfl) (by simp) (AllReadyH.cons rfl (fun K hK => ?_) AllReadyH.nil)
    go_simp
    refine (wnum_any _ (wb + 1) wb ([] ++ encN sn) n HWr6.out (by omega) (by have := encN_le sn; simp; omega)).mono ?_
    rintro e wv7 ⟨rfl, hw7, hv7, -⟩
    have hS7 := Lib.hid (hS6.out.trans hv7)
    have HWr7 := Lib.hid hw7
    clear hv7 hw7
    refine hK.out _ _ hS7 (fun _ => ?_)
    clear hK K
    try simp only [Act.put, List.setIfInBounds_toArray, List.set_cons_zero, List.set_cons_succ]
    refine wpAnyH_done (by kernel_rfl) ?_ _
    have HbW := Lib.hid hS7.out
    have HBv := Lib.hid ((hS7.out.block bx Hbl.out).trans HB3.out)
    have b1' := (cell_of_blk HBv.out 1).trans (show _ = some (.slice a n c) from rfl)
    obtain ⟨PL, hPL⟩ : ∃ PL, PL = encN sn ++ encN n := ⟨_, rfl⟩
    have hPl : PL.length ≤ 20 := by rw [hPL, List.length_append]; have := encN_le sn; have := encN_le n; omega
    have HWp : Hid (IsWr wv7 (wb + 1) wb PL) := Lib.hid (by rw [hPL]; have := HWr7.out; rwa [List.nil_append] at this)
    have HPL := Lib.hid hPL
    clear b0 b1 hPL
    go_wp2_with fail
    clear b1'
    go_loopw [23] (fun iv wr => ∃ k : Nat, k ≤ n ∧ iv = .int .i64 k ∧ IsWr wr (wb + 1) wb (PL ++ (l.take k).flatMap opB) ∧ Below wb W3 wr) (fun iv _ => n - (intOf iv).toNat)
    case atStart => exact ⟨0, Nat.zero_le _, rfl, by rw [List.take_zero, List.flatMap_nil, List.append_nil]; exact HWp.out, HbW.out⟩
    case round =>
      clear HWp HbW
      obtain ⟨wo, rfl⟩ : ∃ wo : World, wo = wr := ⟨_, rfl⟩
      obtain ⟨k, hk, rfl, hwr, hb⟩ := hrel
      have Hwr := Lib.hid hwr
      have Hb := Lib.hid hb
      clear hwr hb
      by_cases hkn : k < n
      · obtain ⟨be, off, rfl, hcell⟩ := Hx.out (by omega)
        obtain ⟨x, hxk⟩ : ∃ x, l[k]? = some x := ⟨_, List.getElem?_eq_getElem (by rw [← Hn.out]; exact hkn)⟩
        have hwo : Below w.heap.size w wo := Hb3.out.trans (Hb.out.mono Hwle.out)
        obtain ⟨d0, d1, d2⟩ := IsOs.row (w := wo) (fun i x hi j y hj => (hwo.cell (block_lt_of_cell (hcell i x hi j y hj))).trans (hcell i x hi j y hj)) hxk
        have hmem := List.mem_of_getElem? hxk
        have hsx := Hsm.out x hmem
        have hox := Hall.out x hmem
        have hlen : (PL ++ (l.take k).flatMap opB).length ≤ 47000 := by
          rw [List.length_append]
          have h1 := ops_le (l := l.take k) (fun y hy => Hsm.out y (List.mem_of_mem_take hy))
          rw [List.length_take] at h1
          have : min k l.length ≤ 64 := by rw [← Hn.out]; omega
          have : 721 * min k l.length ≤ 721 * 64 := Nat.mul_le_mul_left _ this
          omega
        have htk : (l.take (k + 1)).flatMap opB = (l.take k).flatMap opB ++ opB x := by rw [List.take_add_one, hxk, List.flatMap_append]; simp
        have Htk := Lib.hid htk
        clear hcell hxk htk hwo hmem
        obtain ⟨kd, u, val⟩ := x
        dsimp only at d0 d1 d2 hsx
        obtain ⟨hsu, hsv⟩ := hsx
        have hkd : kd = 1 ∨ kd = 2 := by
          unfold okO at hox
          simp only [Bool.and_eq_true, decide_eq_true_eq] at hox
          obtain ⟨⟨⟨⟨⟨h1, h2⟩, -⟩, -⟩, -⟩, -⟩ := hox
          omega
        obtain ⟨BL, hBL⟩ : ∃ BL, BL = PL ++ (l.take k).flatMap opB := ⟨_, rfl⟩
        rw [← hBL] at Hwr hlen
        have HBL := Lib.hid hBL
        have hA : Below wo.heap.size wo (wo.alloc (.cells #[.int .i64 kd, .string u, .string val] 40)) := (Below.refl _ _).alloc (Nat.le_refl _) _
        have HS := Lib.hid (blk_of_alloc wo (.cells #[.int .i64 kd, .string u, .string val] 40))
        have hwlt : wb < wo.heap.size := Nat.lt_of_lt_of_le Hwr.out.lt Hwr.out.le
        have HbW := Lib.hid (Hb.out.trans (hA.mono (Nat.le_of_lt hwlt)))
        have HWw := Lib.hid (Hwr.out.bel hA)
        have HNo := Lib.hid (Hwr.out.notown hA (Nat.le_refl _))
        obtain ⟨sb, hsb⟩ : ∃ o, o = wo.heap.size := ⟨_, rfl⟩
        have hne : sb ≠ wb := by omega
        have Hsb := Lib.hid hsb
        rw [← hsb] at HS HNo
        have hwl2 : wb < (wo.alloc (.cells #[.int .i64 kd, .string u, .string val] 40)).heap.size := by rw [World.size_alloc]; omega
        clear hA hsb hBL hox hwlt
        go_upto_region 9 with fail
        rw [← Hsb.out]
        generalize wo.alloc (.cells #[.int .i64 kd, .string u, .string val] 40) = W at *
        clear Hsb d0 d1 d2 Hwr Hb
        rcases hkd with rfl | rfl
        · refine wp_region_held_drew (S := fun V' => Hid (Below wb W V' ∧ FarW W V' wb)) (by kernel_rfl) (Lib.hid ⟨(Below.refl _ _).drew, fun s x hx _ hn => ⟨hx, hn⟩⟩) (fun hS0 => ?_)
          have HWd : Hid (IsWr W.drew (wb + 1) wb BL) := Lib.hid ⟨HWw.out.ex, HWw.out.lt, HWw.out.le⟩
          refine wpAnyH_take (i := 0) (oi := { dst := some 27, op := Op.fieldAddr 40 (Operand.tmp 7) 0, type := 0, pos := "batch.go:60", after := #[], guard := none }) (v := ?_) rfl (by kernel_rfl) (by kernel_rfl) (by kernel_rfl) (fun _ _ _ h => h) (Or.inl ⟨by rfl, ?hy8⟩) hS0 ?_
          case hy8 => (intro V hSw; (try dsimp only at hSw); clear hSw; go_simp; try with_reducible rfl)
          try simp only [Act.put, List.setIfInBounds_toArray, List.set_cons_zero, List.set_cons_succ]
          refine wpAnyH_take (i := 1) (oi := { dst := some 28, op := Op.load 3 (Operand.tmp 27), type := 3, pos := "batch.go:60", after := #[{ on := 0, ground := Ground.data }], guard := none }) (v := ?_) rfl (by kernel_rfl) (by kernel_rfl) (by kernel_rfl) (fun _ _ _ h => h) (Or.inl ⟨by rfl, ?hy9⟩) hS0 ?_
          case hy9 => (intro V hSw; (try dsimp only at hSw); have q0 := (cell_of_blk (hSw.out.2 sb _ HS.out hne HNo.out).1 0).trans (show _ = some (.int .i64 1) from rfl); have q1 := (cell_of_blk (hSw.out.2 sb _ HS.out hne HNo.out).1 1).trans (show _ = some (.string u) from rfl); clear hSw; go_simp; try with_reducible rfl)
          try simp only [Act.put, List.setIfInBounds_toArray, List.set_cons_zero, List.set_cons_succ]
          refine wpAnyH_take (i := 2) (oi := { dst := some 29, op := Op.convert 3 5 (Operand.tmp 28), type := 5, pos := "batch.go:60", after := #[{ on := 1, ground := Ground.data }], guard := none }) (v := ?_) rfl (by kernel_rfl) (by kernel_rfl) (by kernel_rfl) (fun _ _ _ h => h) (Or.inl ⟨by rfl, ?hy10⟩) hS0 ?_
          case hy10 => (intro V hSw; (try dsimp only at hSw); clear hSw; go_simp; try with_reducible rfl)
          try simp only [Act.put, List.setIfInBounds_toArray, List.set_cons_zero, List.set_cons_succ]
          refine wpAnyH_take (i := 4) (oi := { dst := some 31, op := Op.fieldAddr 40 (Operand.tmp 7) 1, type := 0, pos := "batch.go:60", after := #[], guard := none }) (v := ?_) rfl (by kernel_rfl) (by kernel_rfl) (by kernel_rfl) (fun _ _ _ h => h) (Or.inl ⟨by rfl, ?hy11⟩) hS0 ?_
          case hy11 => (intro V hSw; (try dsimp only at hSw); clear hSw; go_simp; try with_reducible rfl)
          try simp only [Act.put, List.setIfInBounds_toArray, List.set_cons_zero, List.set_cons_succ]
          refine wpAnyH_take (i := 5) (oi := { dst := some 32, op := Op.load 9 (Operand.tmp 31), type := 9, pos := "batch.go:60", after := #[{ on := 4, ground := Ground.data }], guard := none }) (v := ?_) rfl (by kernel_rfl) (by kernel_rfl) (by kernel_rfl) (fun _ _ _ h => h) (Or.inl ⟨by rfl, ?hy12⟩) hS0 ?_
          case hy12 => (intro V hSw; (try dsimp only at hSw); have q0 := (cell_of_blk (hSw.out.2 sb _ HS.out hne HNo.out).1 0).trans (show _ = some (.int .i64 1) from rfl); have q1 := (cell_of_blk (hSw.out.2 sb _ HS.out hne HNo.out).1 1).trans (show _ = some (.string u) from rfl); clear hSw; go_simp; try with_reducible rfl)
          try simp only [Act.put, List.setIfInBounds_toArray, List.set_cons_zero, List.set_cons_succ]
          refine wpAnyH_ready (rs := [3, 6]) (by kernel_rfl) (by simp) (AllReadyH.cons rfl (fun K hK => ?_) (AllReadyH.cons rfl (fun K hK => ?_) AllReadyH.nil))
          · go_simp
            refine (wbyte_any _ (wb + 1) wb BL 1 HWd.out (by omega)).mono ?_
            rintro e wv13 ⟨rfl, hw13, hv13, hf13⟩
            have hS13 := Lib.hid (And.intro (hS0.out.1.trans hv13) (hS0.out.2.trans hf13))
            have HWr13 := Lib.hid hw13
            clear hv13 hw13 hf13
            refine hK.out _ _ hS13 (fun _ => ?_)
            clear hK K
            try simp only [Act.put, List.setIfInBounds_toArray, List.set_cons_zero, List.set_cons_succ]
            refine wpAnyH_ready (rs := [6]) (by kernel_rfl) (by simp) (AllReadyH.cons rfl (fun K hK => ?_) AllReadyH.nil)
            obtain ⟨cc14, wc14, hrun14, hbs14, hbel14, hlt14, hfar14⟩ := conv_str u (wv13) (by omega)
            have hwl14 : wb < (wv13).heap.size := Nat.lt_of_lt_of_le HWr13.out.lt HWr13.out.le
            have HW14 := Lib.hid (HWr13.out.bel hbel14)
            have HC14 := Lib.hid hbs14
            have HNc14 : Hid (NotOwn wc14 wb (wv13).heap.size) := Lib.hid (HWr13.out.notown hbel14 (Nat.le_refl _))
            have hS14 := Lib.hid (And.intro (hS13.out.1.trans (hbel14.mono (Nat.le_of_lt hwl14))) (hS13.out.2.trans (hfar14 wb hwl14)))
            have hne14 : (wv13).heap.size ≠ wb := by omega
            clear hbs14 hbel14 hfar14
            go_simp
            clear hrun14
            refine hK.out _ _ hS14 (fun _ => ?_)
            clear hK K
            try simp only [Act.put, List.setIfInBounds_toArray, List.set_cons_zero, List.set_cons_succ]
            refine wpAnyH_ready (rs := [7]) (by kernel_rfl) (by simp) (AllReadyH.cons rfl (fun K hK => ?_) AllReadyH.nil)
            go_simp
            refine (wtext_any _ (wb + 1) wb _ (BL ++ [1]) (bytesO u) _ _ HW14.out HC14.out hlt14 hne14 HNc14.out (by rw [List.length_append]; simp; omega) (by rw [bytesO_len]; omega)).mono ?_
            rintro e wv15 ⟨rfl, hw15, hv15, hf15⟩
            have hS15 := Lib.hid (And.intro (hS14.out.1.trans hv15) (hS14.out.2.trans hf15))
            have HWr15 := Lib.hid hw15
            clear hv15 hw15 hf15
            refine hK.out _ _ hS15 (fun _ => ?_)
            clear hK K
            try simp only [Act.put, List.setIfInBounds_toArray, List.set_cons_zero, List.set_cons_succ]
            refine wpAnyH_done (by kernel_rfl) ?_ _
            have HSe := Lib.hid (hS15.out.2 sb _ HS.out hne HNo.out).1
            have HbE := Lib.hid (HbW.out.trans hS15.out.1)
            have g0 := (cell_of_blk HSe.out 0).trans (show _ = some (.int .i64 1) from rfl)
            have g2 := (cell_of_blk HSe.out 2).trans (show _ = some (.string val) from rfl)
            obtain ⟨cc, wc, hrun, hbs, hbel, hlt, hfar⟩ := conv_str val wv15 (by omega)
            have hwl : wb < wv15.heap.size := Nat.lt_of_lt_of_le HWr15.out.lt HWr15.out.le
            have hne2 : wv15.heap.size ≠ wb := by omega
            have htx := wtext_any wc (wb + 1) wb _ ((BL ++ [1]) ++ (encN (bytesO u).length ++ bytesO u)) (bytesO val) _ _ (HWr15.out.bel hbel) hbs hlt hne2 (HWr15.out.notown hbel (Nat.le_refl _)) (by rw [List.length_append, List.length_append, List.length_append, bytesO_len]; have := encN_le u.size; simp; omega) (by rw [bytesO_len]; omega)
            have Htx := Lib.hid htx
            have HbC := Lib.hid (HbE.out.trans (hbel.mono (Nat.le_of_lt hwl)))
            clear htx hbs hbel hlt hfar hne2 hwl
            go_wp2_with fail
            refine Htx.out.mono ?_
            rintro e wd ⟨rfl, hwd, hbd, -⟩
            have HWe : Hid (IsWr wd (wb + 1) wb (PL ++ (l.take (k + 1)).flatMap opB)) := Lib.hid (by
              have := hwd
              rw [HBL.out, bytesO_len, bytesO_len] at this
              rw [Htk.out, opB_put]
              simpa [List.append_assoc] using this)
            have HbF := Lib.hid (HbC.out.trans hbd)
            clear hwd hbd Htx
            go_wp2_with fail
            go_roundw
            case rel => exact ⟨k + 1, by omega, by go_num, HWe.out, HbF.out⟩
            case measure => simp [intOf]; omega
          · obtain ⟨cc16, wc16, hrun16, hbs16, hbel16, hlt16, hfar16⟩ := conv_str u (W.drew) (by omega)
            have hwl16 : wb < (W.drew).heap.size := Nat.lt_of_lt_of_le HWd.out.lt HWd.out.le
            have HW16 := Lib.hid (HWd.out.bel hbel16)
            have HC16 := Lib.hid hbs16
            have HNc16 : Hid (NotOwn wc16 wb (W.drew).heap.size) := Lib.hid (HWd.out.notown hbel16 (Nat.le_refl _))
            have hS16 := Lib.hid (And.intro (hS0.out.1.trans (hbel16.mono (Nat.le_of_lt hwl16))) (hS0.out.2.trans (hfar16 wb hwl16)))
            have hne16 : (W.drew).heap.size ≠ wb := by omega
            clear hbs16 hbel16 hfar16
            go_simp
            clear hrun16
            refine hK.out _ _ hS16 (fun _ => ?_)
            clear hK K
            try simp only [Act.put, List.setIfInBounds_toArray, List.set_cons_zero, List.set_cons_succ]
            refine wpAnyH_ready (rs := [3]) (by kernel_rfl) (by simp) (AllReadyH.cons rfl (fun K hK => ?_) AllReadyH.nil)
            go_simp
            refine (wbyte_any _ (wb + 1) wb BL 1 HW16.out (by omega)).mono ?_
            rintro e wv17 ⟨rfl, hw17, hv17, hf17⟩
            have hS17 := Lib.hid (And.intro (hS16.out.1.trans hv17) (hS16.out.2.trans hf17))
            have HWr17 := Lib.hid hw17
            obtain ⟨xs17, hxs17⟩ : ∃ x, (wc16).heap[(W.drew).heap.size]? = some x := ⟨_, Array.getElem?_eq_getElem hlt16⟩
            have hfs17 := hf17 _ _ hxs17 hne16 HNc16.out
            have HC17 := Lib.hid (IsSl.of_far HC16.out (fun b off e _ => by cases e; rw [hfs17.1, hxs17]))
            have hcl17 := blk_lt hfs17.1
            have HNc17 := Lib.hid hfs17.2
            clear hxs17 hfs17
            clear hv17 hw17 hf17
            refine hK.out _ _ hS17 (fun _ => ?_)
            clear hK K
            try simp only [Act.put, List.setIfInBounds_toArray, List.set_cons_zero, List.set_cons_succ]
            refine wpAnyH_ready (rs := [7]) (by kernel_rfl) (by simp) (AllReadyH.cons rfl (fun K hK => ?_) AllReadyH.nil)
            go_simp
            refine (wtext_any _ (wb + 1) wb _ (BL ++ [1]) (bytesO u) _ _ HWr17.out HC17.out hcl17 hne16 HNc17.out (by rw [List.length_append]; simp; omega) (by rw [bytesO_len]; omega)).mono ?_
            rintro e wv18 ⟨rfl, hw18, hv18, hf18⟩
            have hS18 := Lib.hid (And.intro (hS17.out.1.trans hv18) (hS17.out.2.trans hf18))
            have HWr18 := Lib.hid hw18
            clear hv18 hw18 hf18
            refine hK.out _ _ hS18 (fun _ => ?_)
            clear hK K
            try simp only [Act.put, List.setIfInBounds_toArray, List.set_cons_zero, List.set_cons_succ]
            refine wpAnyH_done (by kernel_rfl) ?_ _
            have HSe := Lib.hid (hS18.out.2 sb _ HS.out hne HNo.out).1
            have HbE := Lib.hid (HbW.out.trans hS18.out.1)
            have g0 := (cell_of_blk HSe.out 0).trans (show _ = some (.int .i64 1) from rfl)
            have g2 := (cell_of_blk HSe.out 2).trans (show _ = some (.string val) from rfl)
            obtain ⟨cc, wc, hrun, hbs, hbel, hlt, hfar⟩ := conv_str val wv18 (by omega)
            have hwl : wb < wv18.heap.size := Nat.lt_of_lt_of_le HWr18.out.lt HWr18.out.le
            have hne2 : wv18.heap.size ≠ wb := by omega
            have htx := wtext_any wc (wb + 1) wb _ ((BL ++ [1]) ++ (encN (bytesO u).length ++ bytesO u)) (bytesO val) _ _ (HWr18.out.bel hbel) hbs hlt hne2 (HWr18.out.notown hbel (Nat.le_refl _)) (by rw [List.length_append, List.length_append, List.length_append, bytesO_len]; have := encN_le u.size; simp; omega) (by rw [bytesO_len]; omega)
            have Htx := Lib.hid htx
            have HbC := Lib.hid (HbE.out.trans (hbel.mono (Nat.le_of_lt hwl)))
            clear htx hbs hbel hlt hfar hne2 hwl
            go_wp2_with fail
            refine Htx.out.mono ?_
            rintro e wd ⟨rfl, hwd, hbd, -⟩
            have HWe : Hid (IsWr wd (wb + 1) wb (PL ++ (l.take (k + 1)).flatMap opB)) := Lib.hid (by
              have := hwd
              rw [HBL.out, bytesO_len, bytesO_len] at this
              rw [Htk.out, opB_put]
              simpa [List.append_assoc] using this)
            have HbF := Lib.hid (HbC.out.trans hbd)
            clear hwd hbd Htx
            go_wp2_with fail
            go_roundw
            case rel => exact ⟨k + 1, by omega, by go_num, HWe.out, HbF.out⟩
            case measure => simp [intOf]; omega
        · refine wp_region_held_drew (S := fun V' => Hid (Below wb W V' ∧ FarW W V' wb)) (by kernel_rfl) (Lib.hid ⟨(Below.refl _ _).drew, fun s x hx _ hn => ⟨hx, hn⟩⟩) (fun hS0 => ?_)
          have HWd : Hid (IsWr W.drew (wb + 1) wb BL) := Lib.hid ⟨HWw.out.ex, HWw.out.lt, HWw.out.le⟩
          refine wpAnyH_take (i := 0) (oi := { dst := some 27, op := Op.fieldAddr 40 (Operand.tmp 7) 0, type := 0, pos := "batch.go:60", after := #[], guard := none }) (v := ?_) rfl (by kernel_rfl) (by kernel_rfl) (by kernel_rfl) (fun _ _ _ h => h) (Or.inl ⟨by rfl, ?hy19⟩) hS0 ?_
          case hy19 => (intro V hSw; (try dsimp only at hSw); clear hSw; go_simp; try with_reducible rfl)
          try simp only [Act.put, List.setIfInBounds_toArray, List.set_cons_zero, List.set_cons_succ]
          refine wpAnyH_take (i := 1) (oi := { dst := some 28, op := Op.load 3 (Operand.tmp 27), type := 3, pos := "batch.go:60", after := #[{ on := 0, ground := Ground.data }], guard := none }) (v := ?_) rfl (by kernel_rfl) (by kernel_rfl) (by kernel_rfl) (fun _ _ _ h => h) (Or.inl ⟨by rfl, ?hy20⟩) hS0 ?_
          case hy20 => (intro V hSw; (try dsimp only at hSw); have q0 := (cell_of_blk (hSw.out.2 sb _ HS.out hne HNo.out).1 0).trans (show _ = some (.int .i64 2) from rfl); have q1 := (cell_of_blk (hSw.out.2 sb _ HS.out hne HNo.out).1 1).trans (show _ = some (.string u) from rfl); clear hSw; go_simp; try with_reducible rfl)
          try simp only [Act.put, List.setIfInBounds_toArray, List.set_cons_zero, List.set_cons_succ]
          refine wpAnyH_take (i := 2) (oi := { dst := some 29, op := Op.convert 3 5 (Operand.tmp 28), type := 5, pos := "batch.go:60", after := #[{ on := 1, ground := Ground.data }], guard := none }) (v := ?_) rfl (by kernel_rfl) (by kernel_rfl) (by kernel_rfl) (fun _ _ _ h => h) (Or.inl ⟨by rfl, ?hy21⟩) hS0 ?_
          case hy21 => (intro V hSw; (try dsimp only at hSw); clear hSw; go_simp; try with_reducible rfl)
          try simp only [Act.put, List.setIfInBounds_toArray, List.set_cons_zero, List.set_cons_succ]
          refine wpAnyH_take (i := 4) (oi := { dst := some 31, op := Op.fieldAddr 40 (Operand.tmp 7) 1, type := 0, pos := "batch.go:60", after := #[], guard := none }) (v := ?_) rfl (by kernel_rfl) (by kernel_rfl) (by kernel_rfl) (fun _ _ _ h => h) (Or.inl ⟨by rfl, ?hy22⟩) hS0 ?_
          case hy22 => (intro V hSw; (try dsimp only at hSw); clear hSw; go_simp; try with_reducible rfl)
          try simp only [Act.put, List.setIfInBounds_toArray, List.set_cons_zero, List.set_cons_succ]
          refine wpAnyH_take (i := 5) (oi := { dst := some 32, op := Op.load 9 (Operand.tmp 31), type := 9, pos := "batch.go:60", after := #[{ on := 4, ground := Ground.data }], guard := none }) (v := ?_) rfl (by kernel_rfl) (by kernel_rfl) (by kernel_rfl) (fun _ _ _ h => h) (Or.inl ⟨by rfl, ?hy23⟩) hS0 ?_
          case hy23 => (intro V hSw; (try dsimp only at hSw); have q0 := (cell_of_blk (hSw.out.2 sb _ HS.out hne HNo.out).1 0).trans (show _ = some (.int .i64 2) from rfl); have q1 := (cell_of_blk (hSw.out.2 sb _ HS.out hne HNo.out).1 1).trans (show _ = some (.string u) from rfl); clear hSw; go_simp; try with_reducible rfl)
          try simp only [Act.put, List.setIfInBounds_toArray, List.set_cons_zero, List.set_cons_succ]
          refine wpAnyH_ready (rs := [3, 6]) (by kernel_rfl) (by simp) (AllReadyH.cons rfl (fun K hK => ?_) (AllReadyH.cons rfl (fun K hK => ?_) AllReadyH.nil))
          · go_simp
            refine (wbyte_any _ (wb + 1) wb BL 2 HWd.out (by omega)).mono ?_
            rintro e wv24 ⟨rfl, hw24, hv24, hf24⟩
            have hS24 := Lib.hid (And.intro (hS0.out.1.trans hv24) (hS0.out.2.trans hf24))
            have HWr24 := Lib.hid hw24
            clear hv24 hw24 hf24
            refine hK.out _ _ hS24 (fun _ => ?_)
            clear hK K
            try simp only [Act.put, List.setIfInBounds_toArray, List.set_cons_zero, List.set_cons_succ]
            refine wpAnyH_ready (rs := [6]) (by kernel_rfl) (by simp) (AllReadyH.cons rfl (fun K hK => ?_) AllReadyH.nil)
            obtain ⟨cc25, wc25, hrun25, hbs25, hbel25, hlt25, hfar25⟩ := conv_str u (wv24) (by omega)
            have hwl25 : wb < (wv24).heap.size := Nat.lt_of_lt_of_le HWr24.out.lt HWr24.out.le
            have HW25 := Lib.hid (HWr24.out.bel hbel25)
            have HC25 := Lib.hid hbs25
            have HNc25 : Hid (NotOwn wc25 wb (wv24).heap.size) := Lib.hid (HWr24.out.notown hbel25 (Nat.le_refl _))
            have hS25 := Lib.hid (And.intro (hS24.out.1.trans (hbel25.mono (Nat.le_of_lt hwl25))) (hS24.out.2.trans (hfar25 wb hwl25)))
            have hne25 : (wv24).heap.size ≠ wb := by omega
            clear hbs25 hbel25 hfar25
            go_simp
            clear hrun25
            refine hK.out _ _ hS25 (fun _ => ?_)
            clear hK K
            try simp only [Act.put, List.setIfInBounds_toArray, List.set_cons_zero, List.set_cons_succ]
            refine wpAnyH_ready (rs := [7]) (by kernel_rfl) (by simp) (AllReadyH.cons rfl (fun K hK => ?_) AllReadyH.nil)
            go_simp
            refine (wtext_any _ (wb + 1) wb _ (BL ++ [2]) (bytesO u) _ _ HW25.out HC25.out hlt25 hne25 HNc25.out (by rw [List.length_append]; simp; omega) (by rw [bytesO_len]; omega)).mono ?_
            rintro e wv26 ⟨rfl, hw26, hv26, hf26⟩
            have hS26 := Lib.hid (And.intro (hS25.out.1.trans hv26) (hS25.out.2.trans hf26))
            have HWr26 := Lib.hid hw26
            clear hv26 hw26 hf26
            refine hK.out _ _ hS26 (fun _ => ?_)
            clear hK K
            try simp only [Act.put, List.setIfInBounds_toArray, List.set_cons_zero, List.set_cons_succ]
            refine wpAnyH_done (by kernel_rfl) ?_ _
            have HSe := Lib.hid (hS26.out.2 sb _ HS.out hne HNo.out).1
            have HbE := Lib.hid (HbW.out.trans hS26.out.1)
            have g0 := (cell_of_blk HSe.out 0).trans (show _ = some (.int .i64 2) from rfl)
            have HWe : Hid (IsWr wv26 (wb + 1) wb (PL ++ (l.take (k + 1)).flatMap opB)) := Lib.hid (by
              have := HWr26.out
              rw [HBL.out, bytesO_len] at this
              rw [Htk.out, opB_del]
              simpa [List.append_assoc] using this)
            go_wp2_with fail
            go_roundw
            case rel => exact ⟨k + 1, by omega, by go_num, HWe.out, HbE.out⟩
            case measure => simp [intOf]; omega
          · obtain ⟨cc27, wc27, hrun27, hbs27, hbel27, hlt27, hfar27⟩ := conv_str u (W.drew) (by omega)
            have hwl27 : wb < (W.drew).heap.size := Nat.lt_of_lt_of_le HWd.out.lt HWd.out.le
            have HW27 := Lib.hid (HWd.out.bel hbel27)
            have HC27 := Lib.hid hbs27
            have HNc27 : Hid (NotOwn wc27 wb (W.drew).heap.size) := Lib.hid (HWd.out.notown hbel27 (Nat.le_refl _))
            have hS27 := Lib.hid (And.intro (hS0.out.1.trans (hbel27.mono (Nat.le_of_lt hwl27))) (hS0.out.2.trans (hfar27 wb hwl27)))
            have hne27 : (W.drew).heap.size ≠ wb := by omega
            clear hbs27 hbel27 hfar27
            go_simp
            clear hrun27
            refine hK.out _ _ hS27 (fun _ => ?_)
            clear hK K
            try simp only [Act.put, List.setIfInBounds_toArray, List.set_cons_zero, List.set_cons_succ]
            refine wpAnyH_ready (rs := [3]) (by kernel_rfl) (by simp) (AllReadyH.cons rfl (fun K hK => ?_) AllReadyH.nil)
            go_simp
            refine (wbyte_any _ (wb + 1) wb BL 2 HW27.out (by omega)).mono ?_
            rintro e wv28 ⟨rfl, hw28, hv28, hf28⟩
            have hS28 := Lib.hid (And.intro (hS27.out.1.trans hv28) (hS27.out.2.trans hf28))
            have HWr28 := Lib.hid hw28
            obtain ⟨xs28, hxs28⟩ : ∃ x, (wc27).heap[(W.drew).heap.size]? = some x := ⟨_, Array.getElem?_eq_getElem hlt27⟩
            have hfs28 := hf28 _ _ hxs28 hne27 HNc27.out
            have HC28 := Lib.hid (IsSl.of_far HC27.out (fun b off e _ => by cases e; rw [hfs28.1, hxs28]))
            have hcl28 := blk_lt hfs28.1
            have HNc28 := Lib.hid hfs28.2
            clear hxs28 hfs28
            clear hv28 hw28 hf28
            refine hK.out _ _ hS28 (fun _ => ?_)
            clear hK K
            try simp only [Act.put, List.setIfInBounds_toArray, List.set_cons_zero, List.set_cons_succ]
            refine wpAnyH_ready (rs := [7]) (by kernel_rfl) (by simp) (AllReadyH.cons rfl (fun K hK => ?_) AllReadyH.nil)
            go_simp
            refine (wtext_any _ (wb + 1) wb _ (BL ++ [2]) (bytesO u) _ _ HWr28.out HC28.out hcl28 hne27 HNc28.out (by rw [List.length_append]; simp; omega) (by rw [bytesO_len]; omega)).mono ?_
            rintro e wv29 ⟨rfl, hw29, hv29, hf29⟩
            have hS29 := Lib.hid (And.intro (hS28.out.1.trans hv29) (hS28.out.2.trans hf29))
            have HWr29 := Lib.hid hw29
            clear hv29 hw29 hf29
            refine hK.out _ _ hS29 (fun _ => ?_)
            clear hK K
            try simp only [Act.put, List.setIfInBounds_toArray, List.set_cons_zero, List.set_cons_succ]
            refine wpAnyH_done (by kernel_rfl) ?_ _
            have HSe := Lib.hid (hS29.out.2 sb _ HS.out hne HNo.out).1
            have HbE := Lib.hid (HbW.out.trans hS29.out.1)
            have g0 := (cell_of_blk HSe.out 0).trans (show _ = some (.int .i64 2) from rfl)
            have HWe : Hid (IsWr wv29 (wb + 1) wb (PL ++ (l.take (k + 1)).flatMap opB)) := Lib.hid (by
              have := HWr29.out
              rw [HBL.out, bytesO_len] at this
              rw [Htk.out, opB_del]
              simpa [List.append_assoc] using this)
            go_wp2_with fail
            go_roundw
            case rel => exact ⟨k + 1, by omega, by go_num, HWe.out, HbE.out⟩
            case measure => simp [intOf]; omega
      · obtain rfl : n = k := by omega
        have hfin : IsWr wo (wb + 1) wb (batchB sn l) := by
          have := Hwr.out
          rw [HPL.out, Hn.out, List.take_length] at this
          exact this
        have hle := batchB_le (s := (sn : Int)) Hsm.out (by rw [← Hn.out]; omega)
        have hpos : 0 < (batchB sn l).length := by
          unfold batchB
          rw [List.length_append, List.length_append]
          have : ∀ q, 0 < (encN q).length := fun q => by
            unfold encN encF
            split
            · simp
            · simp
          have := this (sn : Int).toNat
          omega
        have HWb := Lib.hid (wbytes_any wo (wb + 1) wb _ hfin (by omega) hpos)
        have hwo : Below w.heap.size w wo := Hb3.out.trans (Hb.out.mono Hwle.out)
        have Hwo := Lib.hid hwo
        clear hfin hle hpos hwo
        go_wp2_with fail
        refine HWb.out.mono ?_
        rintro e w9 ⟨v9, rfl, hown9, hb9⟩
        have Ho9 := Lib.hid (own_mono hown9 Hwo.out.size)
        have Hb9 := Lib.hid (Hwo.out.trans (hb9.mono Hwo.out.size))
        clear hown9 hb9 HWb
        go_wp2_with fail
        go_ret2
        exact Lib.hid ⟨.inr ⟨Hok.out, _, rfl, Ho9.out⟩, Hb9.out⟩
end Go.Proofs.Ytbnodgoccmhjkaa.Tithe
