/- The steps of FlatPlays: walked (printed by mkstep.py). -/
import Derived.Test.YtbnodgoccmhjkaaFlatStepC
namespace Go.Proofs.Ytbnodgoccmhjkaa.Tithe
open Go.RowKit Go.Sort Go.Shelf
set_option linter.unusedVariables false
set_option linter.unusedSimpArgs false
set_option maxRecDepth 100000
attribute [local go_sem] Oper.semAt_some
set_option maxHeartbeats 12800000 in
theorem step_none {W : World} {lo mb xb sb sm im ss is_ as_ : Nat} {most : Int} {k base base2 : Nat} {rm rx : List Wr} {hd : Nat} {S : Int → Option Int} {zs : Nat} {P : Int → Option Nat} {zi : Nat} {L : Nat → List Bo} {A : Nat → Int} {N T : Int → Option Int} {zt : Nat} (h : BothD W lo mb xb sb sm im ss is_ as_ most k base base2 rm rx hd S zs P zi L A N T zt) (hk60 : k ≤ 60) (kd : Int) (a b : Int) (key to : ByteArray) (oa : Option Addr) (on oc : Nat) (ops : List Bo) (ho : IsOs W (.slice oa on oc) ops) (hs1 : key.size ≤ 200) (hs2 : to.size ≤ 200) (hs3 : ops.length ≤ 70) (hs4 : ∀ x ∈ ops, x.u.size ≤ 200 ∧ x.v.size ≤ 500) (ha : (Lit.int .i64 a).wf = true) (hb : (Lit.int .i64 b).wf = true) (hkd : kd < 1 ∨ 7 < kd) :
    Calls Try.prog 24 #[.pointer (some ⟨mb, 0, none⟩), .pointer (some ⟨xb, 0, none⟩), .pointer (some ⟨sb, 0, none⟩), .agg #[.int .i64 kd, .int .i64 a, .int .i64 b, .string key, .string to, .slice oa on oc]] W (StepOut W lo mb xb sb sm im ss is_ as_ most k) := by
  obtain ⟨W1, hW1⟩ : ∃ V, V = W.alloc (.cells #[.int .i64 kd, .int .i64 a, .int .i64 b, .string key, .string to, .slice oa on oc] 64) := ⟨_, rfl⟩
  have hbA : Below W.heap.size W W1 := by rw [hW1]; exact (Below.refl _ _).alloc (Nat.le_refl _) _
  have hc1 : W1.heap[W.heap.size]? = some (.cells #[.int .i64 kd, .int .i64 a, .int .i64 b, .string key, .string to, .slice oa on oc] 64 (0, 0)) := by rw [hW1]; exact blk_newF rfl _
  have HB := Lib.hid (h.bel hbA)
  have Hwr := Lib.hid (writes_any HB.out.xs a ha)
  have Hlw := Lib.hid h.lw
  have HO := Lib.hid (ho.below hbA)
  have HC := Lib.hid hc1
  have HbA := Lib.hid hbA
  have HW1 := Lib.hid hW1
  have Hs4 := Lib.hid hs4
  have Ha := Lib.hid ha
  have Hbw := Lib.hid hb
  have c0 := (cell_of_blk hc1 0).trans (show _ = some (.int .i64 kd) from rfl)
  have c1 := (cell_of_blk hc1 1).trans (show _ = some (.int .i64 a) from rfl)
  have c2 := (cell_of_blk hc1 2).trans (show _ = some (.int .i64 b) from rfl)
  have c3 := (cell_of_blk hc1 3).trans (show _ = some (.string key) from rfl)
  have c4 := (cell_of_blk hc1 4).trans (show _ = some (.string to) from rfl)
  have c5 := (cell_of_blk hc1 5).trans (show _ = some (.slice oa on oc) from rfl)
  clear h ho hs4 ha hb hW1 hbA hc1
  have n1 : (kd == 1) = false := beq_eq_false_iff_ne.2 (by omega)
  have n2 : (kd == 2) = false := beq_eq_false_iff_ne.2 (by omega)
  have n3 : (kd == 3) = false := beq_eq_false_iff_ne.2 (by omega)
  have n4 : (kd == 4) = false := beq_eq_false_iff_ne.2 (by omega)
  have n5 : (kd == 5) = false := beq_eq_false_iff_ne.2 (by omega)
  have n6 : (kd == 6) = false := beq_eq_false_iff_ne.2 (by omega)
  have n7 : (kd == 7) = false := beq_eq_false_iff_ne.2 (by omega)
  obtain ⟨nv, hnv⟩ : ∃ q, q = (wrN rx.length S a).getD 0 := ⟨_, rfl⟩
  obtain ⟨okv, hok⟩ : ∃ q, q = (wrN rx.length S a).isSome := ⟨_, rfl⟩
  rw [← hnv, ← hok] at Hwr
  clear hnv hok
  go_enter Try.func24, Try.ntmps24
  go_wp2_with fail
  rw [← HW1.out]
  refine Hwr.out.mono ?_
  rintro e w' ⟨rfl, rfl⟩
  clear Hwr
  go_wp2_with fail
  go_ret
  exact ⟨rfl, HB.out.more, (HbA.out.mono Hlw.out)⟩
set_option maxHeartbeats 12800000 in
theorem step_get {W : World} {lo mb xb sb sm im ss is_ as_ : Nat} {most : Int} {k base base2 : Nat} {rm rx : List Wr} {hd : Nat} {S : Int → Option Int} {zs : Nat} {P : Int → Option Nat} {zi : Nat} {L : Nat → List Bo} {A : Nat → Int} {N T : Int → Option Int} {zt : Nat} (h : BothD W lo mb xb sb sm im ss is_ as_ most k base base2 rm rx hd S zs P zi L A N T zt) (hk60 : k ≤ 60) (a b : Int) (key to : ByteArray) (oa : Option Addr) (on oc : Nat) (ops : List Bo) (ho : IsOs W (.slice oa on oc) ops) (hs1 : key.size ≤ 200) (hs2 : to.size ≤ 200) (hs3 : ops.length ≤ 70) (hs4 : ∀ x ∈ ops, x.u.size ≤ 200 ∧ x.v.size ≤ 500) (ha : (Lit.int .i64 a).wf = true) (hb : (Lit.int .i64 b).wf = true) :
    Calls Try.prog 24 #[.pointer (some ⟨mb, 0, none⟩), .pointer (some ⟨xb, 0, none⟩), .pointer (some ⟨sb, 0, none⟩), .agg #[.int .i64 2, .int .i64 a, .int .i64 b, .string key, .string to, .slice oa on oc]] W (StepOut W lo mb xb sb sm im ss is_ as_ most k) := by
  obtain ⟨W1, hW1⟩ : ∃ V, V = W.alloc (.cells #[.int .i64 2, .int .i64 a, .int .i64 b, .string key, .string to, .slice oa on oc] 64) := ⟨_, rfl⟩
  have hbA : Below W.heap.size W W1 := by rw [hW1]; exact (Below.refl _ _).alloc (Nat.le_refl _) _
  have hc1 : W1.heap[W.heap.size]? = some (.cells #[.int .i64 2, .int .i64 a, .int .i64 b, .string key, .string to, .slice oa on oc] 64 (0, 0)) := by rw [hW1]; exact blk_newF rfl _
  have HB := Lib.hid (h.bel hbA)
  have Hwr := Lib.hid (writes_any HB.out.xs a ha)
  have Hlw := Lib.hid h.lw
  have HO := Lib.hid (ho.below hbA)
  have HC := Lib.hid hc1
  have HbA := Lib.hid hbA
  have HW1 := Lib.hid hW1
  have Hs4 := Lib.hid hs4
  have Ha := Lib.hid ha
  have Hbw := Lib.hid hb
  have c0 := (cell_of_blk hc1 0).trans (show _ = some (.int .i64 2) from rfl)
  have c1 := (cell_of_blk hc1 1).trans (show _ = some (.int .i64 a) from rfl)
  have c2 := (cell_of_blk hc1 2).trans (show _ = some (.int .i64 b) from rfl)
  have c3 := (cell_of_blk hc1 3).trans (show _ = some (.string key) from rfl)
  have c4 := (cell_of_blk hc1 4).trans (show _ = some (.string to) from rfl)
  have c5 := (cell_of_blk hc1 5).trans (show _ = some (.slice oa on oc) from rfl)
  have hlen := HB.out.len
  obtain ⟨am, cm, hB, hO⟩ := HB.out.ms.mo.ex
  obtain ⟨ax, cx, hX, hXo⟩ := HB.out.xs.len
  have hrl := HB.out.rl
  rcases HB.out.hand a ha with ⟨n, hn, hwn, hat⟩ | ⟨hwn, hat⟩
  · obtain ⟨hf1, hf2⟩ := HB.out.ops (by omega) n
    have hg := get_yes mb key a (n : Int) most _ am cm rm _ _ _ W1 hB hO.isWs (by omega) (by rw [flatO_min', Int.toNat_natCast]; exact hf1) (by rw [flatO_min', Int.toNat_natCast]; exact fun x hx => by have := hf2 x hx; omega) (by omega) (hat W1 (Below.refl _ _))
    have hfi := fun (X : World) (hX2 : Below W1.heap.size W1 X) => find_any xb _ most rx (n : Int) key X (blk_bels hX2 hX) (hXo.below hX2) (by omega)
    rw [flatO_min', Int.toNat_natCast, foldF_is] at hg
    rw [Int.toNat_natCast, HB.out.rel.eq] at hfi
    rw [hwn] at Hwr
    obtain ⟨⟨want, is⟩, hwi⟩ : ∃ p, p = findL key ((opsOf rm).take n).flatten := ⟨_, rfl⟩
    rw [← hwi] at hg hfi
    dsimp only at hg hfi
    have Hg := Lib.hid hg
    have Hfi := Lib.hid hfi
    clear hlen hB hO hX hXo hrl hn hwn hat hf1 hf2 hg hfi hwi h ho hs4 ha hb hW1 hbA hc1
    cases is with
    | true =>
      have Hg2 : Hid (Calls Try.prog 10 #[.pointer (some ⟨mb, 0, none⟩), .string key, .int .i64 a] W1 fun e w' => e = .returned (.tuple #[.string want, .int .i64 0]) ∧ Below W1.heap.size W1 w') := Hg
      clear Hg
      go_enter Try.func24, Try.ntmps24
      go_wp2_with fail
      rw [← HW1.out]
      refine Hwr.out.mono ?_
      rintro e w' ⟨rfl, rfl⟩
      clear Hwr
      go_wp2_with fail
      refine Hg2.out.mono ?_
      rintro e w2 ⟨rfl, hb2⟩
      have d3 := grow_cellO hb2 (block_lt_of_cell c3) c3
      have Hb2 := Lib.hid hb2
      clear hb2 c0 c1 c2 c3 c4 c5 Hg2
      go_wp2_with fail
      refine (Hfi.out _ Hb2.out).mono ?_
      rintro e w3 ⟨rfl, hb3⟩
      have Hb3 := Lib.hid (Hb2.out.trans (hb3.mono Hb2.out.size))
      clear hb3 d3 Hfi
      go_wp2_with fail
      go_ret
      exact ⟨rfl, (HB.out.bel Hb3.out).more, ((HbA.out.trans (Hb3.out.mono HbA.out.size)).mono Hlw.out)⟩
    | false =>
      have Hg2 : Hid (Calls Try.prog 10 #[.pointer (some ⟨mb, 0, none⟩), .string key, .int .i64 a] W1 fun e w' => e = .returned (.tuple #[.string ⟨#[]⟩, .int .i64 200]) ∧ Below W1.heap.size W1 w') := Hg
      clear Hg
      go_enter Try.func24, Try.ntmps24
      go_wp2_with fail
      rw [← HW1.out]
      refine Hwr.out.mono ?_
      rintro e w' ⟨rfl, rfl⟩
      clear Hwr
      go_wp2_with fail
      refine Hg2.out.mono ?_
      rintro e w2 ⟨rfl, hb2⟩
      have d3 := grow_cellO hb2 (block_lt_of_cell c3) c3
      have Hb2 := Lib.hid hb2
      clear hb2 c0 c1 c2 c3 c4 c5 Hg2
      go_wp2_with fail
      refine (Hfi.out _ Hb2.out).mono ?_
      rintro e w3 ⟨rfl, hb3⟩
      have Hb3 := Lib.hid (Hb2.out.trans (hb3.mono Hb2.out.size))
      clear hb3 d3 Hfi
      go_wp2_with fail
      go_ret
      exact ⟨rfl, (HB.out.bel Hb3.out).more, ((HbA.out.trans (Hb3.out.mono HbA.out.size)).mono Hlw.out)⟩
  · have hg := get_no mb key a 203 0 W1 (hat W1 (Below.refl _ _)) (by decide)
    rw [hwn] at Hwr
    have Hg2 := Lib.hid hg
    clear hlen hB hO hX hXo hrl hwn hat hg h ho hs4 ha hb hW1 hbA hc1
    go_enter Try.func24, Try.ntmps24
    go_wp2_with fail
    rw [← HW1.out]
    refine Hwr.out.mono ?_
    rintro e w' ⟨rfl, rfl⟩
    clear Hwr
    go_wp2_with fail
    refine Hg2.out.mono ?_
    rintro e w2 ⟨rfl, hb2⟩
    have Hb2 := Lib.hid hb2
    clear hb2 c0 c1 c2 c3 c4 c5 Hg2
    go_wp2_with fail
    go_ret
    exact ⟨rfl, (HB.out.bel Hb2.out).more, ((HbA.out.trans (Hb2.out.mono HbA.out.size)).mono Hlw.out)⟩
set_option maxHeartbeats 12800000 in
theorem step_scan {W : World} {lo mb xb sb sm im ss is_ as_ : Nat} {most : Int} {k base base2 : Nat} {rm rx : List Wr} {hd : Nat} {S : Int → Option Int} {zs : Nat} {P : Int → Option Nat} {zi : Nat} {L : Nat → List Bo} {A : Nat → Int} {N T : Int → Option Int} {zt : Nat} (h : BothD W lo mb xb sb sm im ss is_ as_ most k base base2 rm rx hd S zs P zi L A N T zt) (hk60 : k ≤ 60) (a b : Int) (key to : ByteArray) (oa : Option Addr) (on oc : Nat) (ops : List Bo) (ho : IsOs W (.slice oa on oc) ops) (hs1 : key.size ≤ 200) (hs2 : to.size ≤ 200) (hs3 : ops.length ≤ 70) (hs4 : ∀ x ∈ ops, x.u.size ≤ 200 ∧ x.v.size ≤ 500) (ha : (Lit.int .i64 a).wf = true) (hb : (Lit.int .i64 b).wf = true) :
    Calls Try.prog 24 #[.pointer (some ⟨mb, 0, none⟩), .pointer (some ⟨xb, 0, none⟩), .pointer (some ⟨sb, 0, none⟩), .agg #[.int .i64 3, .int .i64 a, .int .i64 b, .string key, .string to, .slice oa on oc]] W (StepOut W lo mb xb sb sm im ss is_ as_ most k) := by
  obtain ⟨W1, hW1⟩ : ∃ V, V = W.alloc (.cells #[.int .i64 3, .int .i64 a, .int .i64 b, .string key, .string to, .slice oa on oc] 64) := ⟨_, rfl⟩
  have hbA : Below W.heap.size W W1 := by rw [hW1]; exact (Below.refl _ _).alloc (Nat.le_refl _) _
  have hc1 : W1.heap[W.heap.size]? = some (.cells #[.int .i64 3, .int .i64 a, .int .i64 b, .string key, .string to, .slice oa on oc] 64 (0, 0)) := by rw [hW1]; exact blk_newF rfl _
  have HB := Lib.hid (h.bel hbA)
  have Hwr := Lib.hid (writes_any HB.out.xs a ha)
  have Hlw := Lib.hid h.lw
  have HO := Lib.hid (ho.below hbA)
  have HC := Lib.hid hc1
  have HbA := Lib.hid hbA
  have HW1 := Lib.hid hW1
  have Hs4 := Lib.hid hs4
  have Ha := Lib.hid ha
  have Hbw := Lib.hid hb
  have c0 := (cell_of_blk hc1 0).trans (show _ = some (.int .i64 3) from rfl)
  have c1 := (cell_of_blk hc1 1).trans (show _ = some (.int .i64 a) from rfl)
  have c2 := (cell_of_blk hc1 2).trans (show _ = some (.int .i64 b) from rfl)
  have c3 := (cell_of_blk hc1 3).trans (show _ = some (.string key) from rfl)
  have c4 := (cell_of_blk hc1 4).trans (show _ = some (.string to) from rfl)
  have c5 := (cell_of_blk hc1 5).trans (show _ = some (.slice oa on oc) from rfl)
  have hlen := HB.out.len
  obtain ⟨am, cm, hB, hO⟩ := HB.out.ms.mo.ex
  obtain ⟨ax, cx, hX, hXo⟩ := HB.out.xs.len
  have hrl := HB.out.rl
  rcases HB.out.hand a ha with ⟨n, hn, hwn, hat⟩ | ⟨hwn, hat⟩
  · obtain ⟨hf1, hf2⟩ := HB.out.ops (by omega) n
    have hg := scan_yes mb key to a (n : Int) most _ am cm rm _ _ _ W1 hB hO.isWs (by omega) (by rw [flatO_min', Int.toNat_natCast]; exact hf1) (by rw [flatO_min', Int.toNat_natCast]; exact fun x hx => by have := hf2 x hx; omega) hat
    rw [flatO_min', Int.toNat_natCast] at hg
    obtain ⟨F, hF⟩ : ∃ F, F = foldF ((opsOf rm).take n).flatten := ⟨_, rfl⟩
    rw [← hF] at hg
    rw [hwn] at Hwr
    have hke := fun (X : World) (hX2 : Below W1.heap.size W1 X) => keys_any xb _ most rx (n : Int) X (blk_bels hX2 hX) (hXo.below hX2) (by omega) (by rw [Int.toNat_natCast, HB.out.rel.eq]; exact hf1) (by rw [Int.toNat_natCast, HB.out.rel.eq]; exact fun x hx => by have := hf2 x hx; omega)
    rw [Int.toNat_natCast, HB.out.rel.eq, ← hF] at hke
    have Hg := Lib.hid hg
    have Hke1 := Lib.hid hke
    have His1 : Hid (∀ (X : World) (v0 vk : Value) (bs : Nat) (kz : List (List UInt8)), Below W1.heap.size W1 X → IsOs X v0 (outO F kz) → OwnSt X bs vk kz → (∀ y ∈ kz, (F (ba y)).isSome = true) → kz.length ≤ 100000 → Calls Try.prog 14 #[v0, .pointer (some ⟨xb, 0, none⟩), .int .i64 n, vk] X fun e w' => e = .returned (.bool true) ∧ Below X.heap.size X w') := Lib.hid (fun X v0 vk bs kz hX2 h0 hk hs hl => by
      have hF2 : F = foldF ((opsOf rx).take ((n : Nat) : Int).toNat).flatten := by rw [hF, Int.toNat_natCast, HB.out.rel.eq]
      rw [hF2] at h0 hs
      exact is_true xb _ most rx (n : Int) v0 vk bs kz X (blk_bels hX2 hX) (hXo.below hX2) (by omega) h0 hk hs hl)
    clear hlen hB hO hX hXo hrl hn hwn hat hf1 hf2 hg hke hF h ho hs4 ha hb hW1 hbA hc1
    go_enter Try.func24, Try.ntmps24
    go_wp2_with fail
    rw [← HW1.out]
    refine Hwr.out.mono ?_
    rintro e w' ⟨rfl, rfl⟩
    clear Hwr
    go_wp2_with fail
    refine Hg.out.mono ?_
    rintro e W2 ⟨v', ks, rfl, hks, hkl, hown, hb2⟩
    rw [outO_left] at hown
    obtain ⟨va, vc, rfl⟩ := own_slice hown
    have Hos : Hid (IsOs W2 (.slice va (outO F (ks.filter (inR key to))).length vc) (outO F (ks.filter (inR key to)))) := Lib.hid (isSl_own bo_len hown)
    have Hks := Lib.hid hks
    have Hkl := Lib.hid hkl
    have Hb2 := Lib.hid hb2
    have Hke := Lib.hid (fun (X : World) (hX : Below W2.heap.size W2 X) => Hke1.out X (hb2.trans (hX.mono hb2.size)))
    have His := Lib.hid (fun (X : World) (vk : Value) (bs : Nat) (u : Unit) (hX : Below W2.heap.size W2 X) (hst : OwnSt X bs vk (ks.filter (inR key to))) => His1.out X _ vk bs (ks.filter (inR key to)) (hb2.trans (hX.mono hb2.size)) (Hos.out.below hX) hst (fun y hy => (hks.iff y (hks.le y (List.mem_filter.1 hy).1)).1 (List.mem_filter.1 hy).1) (Nat.le_trans (List.length_filter_le _ _) hkl))
    have d3 := grow_cellO hb2 (block_lt_of_cell c3) c3
    have d4 := grow_cellO hb2 (block_lt_of_cell c4) c4
    clear hown hks hkl hb2 c0 c1 c2 c3 c4 c5 Hg Hke1 His1
    have c3 := d3
    have c4 := d4
    clear d3 d4
    go_upto_region 18 with fail
    refine wp_region_held_drew (S := fun V' => Hid (Below W2.heap.size W2 V')) (by kernel_rfl) (Lib.hid ((Below.refl _ _).drew)) (fun hS0 => ?_)
    refine wpAnyH_take (i := 0) (oi := { dst := some 142, op := Op.move (Operand.tmp 17), type := 29, pos := "law.go:188", after := #[], guard := none }) (v := ?_) rfl (by kernel_rfl) (by kernel_rfl) (by kernel_rfl) (fun _ _ _ h => h) (Or.inl ⟨by rfl, ?hy57⟩) hS0 ?_
    case hy57 => (intro V hSw; (try dsimp only at hSw); clear hSw; go_simp; try with_reducible rfl)
    try simp only [Act.put, List.setIfInBounds_toArray, List.set_cons_zero, List.set_cons_succ]
    refine wpAnyH_take (i := 1) (oi := { dst := some 143, op := Op.binOp BinOp.eql 29 (Operand.tmp 142) (Operand.const (Value.int IntKind.i64 0)) 29, type := 4, pos := "law.go:188", after := #[{ on := 0, ground := Ground.data }], guard := none }) (v := ?_) rfl (by kernel_rfl) (by kernel_rfl) (by kernel_rfl) (fun _ _ _ h => h) (Or.inl ⟨by rfl, ?hy58⟩) hS0 ?_
    case hy58 => (intro V hSw; (try dsimp only at hSw); clear hSw; go_simp; try with_reducible rfl)
    try simp only [Act.put, List.setIfInBounds_toArray, List.set_cons_zero, List.set_cons_succ]
    refine wpAnyH_take (i := 2) (oi := { dst := some 144, op := Op.move (Operand.tmp 143), type := 4, pos := "law.go:188", after := #[{ on := 1, ground := Ground.data }], guard := none }) (v := ?_) rfl (by kernel_rfl) (by kernel_rfl) (by kernel_rfl) (fun _ _ _ h => h) (Or.inl ⟨by rfl, ?hy59⟩) hS0 ?_
    case hy59 => (intro V hSw; (try dsimp only at hSw); clear hSw; go_simp; try with_reducible rfl)
    try simp only [Act.put, List.setIfInBounds_toArray, List.set_cons_zero, List.set_cons_succ]
    refine wpAnyH_take (i := 3) (oi := { dst := some 145, op := Op.move (Operand.tmp 16), type := 37, pos := "law.go:188", after := #[{ on := 2, ground := Ground.guard }], guard := some (2, true) }) (v := ?_) rfl (by kernel_rfl) (by kernel_rfl) (by kernel_rfl) (fun _ _ _ h => h) (Or.inl ⟨by rfl, ?hy60⟩) hS0 ?_
    case hy60 => (intro V hSw; (try dsimp only at hSw); clear hSw; go_simp; try with_reducible rfl)
    try simp only [Act.put, List.setIfInBounds_toArray, List.set_cons_zero, List.set_cons_succ]
    refine wpAnyH_take (i := 4) (oi := { dst := some 146, op := Op.move (Operand.tmp 1), type := 26, pos := "law.go:188", after := #[{ on := 2, ground := Ground.guard }], guard := some (2, true) }) (v := ?_) rfl (by kernel_rfl) (by kernel_rfl) (by kernel_rfl) (fun _ _ _ h => h) (Or.inl ⟨by rfl, ?hy61⟩) hS0 ?_
    case hy61 => (intro V hSw; (try dsimp only at hSw); clear hSw; go_simp; try with_reducible rfl)
    try simp only [Act.put, List.setIfInBounds_toArray, List.set_cons_zero, List.set_cons_succ]
    refine wpAnyH_take (i := 5) (oi := { dst := some 147, op := Op.move (Operand.tmp 9), type := 3, pos := "law.go:188", after := #[{ on := 2, ground := Ground.guard }], guard := some (2, true) }) (v := ?_) rfl (by kernel_rfl) (by kernel_rfl) (by kernel_rfl) (fun _ _ _ h => h) (Or.inl ⟨by rfl, ?hy62⟩) hS0 ?_
    case hy62 => (intro V hSw; (try dsimp only at hSw); clear hSw; go_simp; try with_reducible rfl)
    try simp only [Act.put, List.setIfInBounds_toArray, List.set_cons_zero, List.set_cons_succ]
    refine wpAnyH_take (i := 6) (oi := { dst := some 148, op := Op.move (Operand.tmp 1), type := 26, pos := "law.go:188", after := #[{ on := 2, ground := Ground.guard }], guard := some (2, true) }) (v := ?_) rfl (by kernel_rfl) (by kernel_rfl) (by kernel_rfl) (fun _ _ _ h => h) (Or.inl ⟨by rfl, ?hy63⟩) hS0 ?_
    case hy63 => (intro V hSw; (try dsimp only at hSw); clear hSw; go_simp; try with_reducible rfl)
    try simp only [Act.put, List.setIfInBounds_toArray, List.set_cons_zero, List.set_cons_succ]
    refine wpAnyH_take (i := 7) (oi := { dst := some 149, op := Op.move (Operand.tmp 9), type := 3, pos := "law.go:188", after := #[{ on := 2, ground := Ground.guard }], guard := some (2, true) }) (v := ?_) rfl (by kernel_rfl) (by kernel_rfl) (by kernel_rfl) (fun _ _ _ h => h) (Or.inl ⟨by rfl, ?hy64⟩) hS0 ?_
    case hy64 => (intro V hSw; (try dsimp only at hSw); clear hSw; go_simp; try with_reducible rfl)
    try simp only [Act.put, List.setIfInBounds_toArray, List.set_cons_zero, List.set_cons_succ]
    refine wpAnyH_take (i := 9) (oi := { dst := some 151, op := Op.fieldAddr 64 (Operand.tmp 7) 3, type := 0, pos := "law.go:188", after := #[{ on := 2, ground := Ground.guard }], guard := some (2, true) }) (v := ?_) rfl (by kernel_rfl) (by kernel_rfl) (by kernel_rfl) (fun _ _ _ h => h) (Or.inl ⟨by rfl, ?hy65⟩) hS0 ?_
    case hy65 => (intro V hSw; (try dsimp only at hSw); clear hSw; go_simp; try with_reducible rfl)
    try simp only [Act.put, List.setIfInBounds_toArray, List.set_cons_zero, List.set_cons_succ]
    refine wpAnyH_take (i := 10) (oi := { dst := some 152, op := Op.load 9 (Operand.tmp 151), type := 9, pos := "law.go:188", after := #[{ on := 9, ground := Ground.data }, { on := 2, ground := Ground.guard }], guard := some (2, true) }) (v := ?_) rfl (by kernel_rfl) (by kernel_rfl) (by kernel_rfl) (fun _ _ _ h => h) (Or.inl ⟨by rfl, ?hy66⟩) hS0 ?_
    case hy66 => (intro V hSw; (try dsimp only at hSw); have q3 := grow_cellO hSw.out (block_lt_of_cell c3) c3; have q4 := grow_cellO hSw.out (block_lt_of_cell c4) c4; clear hSw; go_simp; try with_reducible rfl)
    try simp only [Act.put, List.setIfInBounds_toArray, List.set_cons_zero, List.set_cons_succ]
    refine wpAnyH_take (i := 11) (oi := { dst := some 153, op := Op.fieldAddr 64 (Operand.tmp 7) 4, type := 0, pos := "law.go:188", after := #[{ on := 2, ground := Ground.guard }], guard := some (2, true) }) (v := ?_) rfl (by kernel_rfl) (by kernel_rfl) (by kernel_rfl) (fun _ _ _ h => h) (Or.inl ⟨by rfl, ?hy67⟩) hS0 ?_
    case hy67 => (intro V hSw; (try dsimp only at hSw); clear hSw; go_simp; try with_reducible rfl)
    try simp only [Act.put, List.setIfInBounds_toArray, List.set_cons_zero, List.set_cons_succ]
    refine wpAnyH_take (i := 12) (oi := { dst := some 154, op := Op.load 9 (Operand.tmp 153), type := 9, pos := "law.go:188", after := #[{ on := 11, ground := Ground.data }, { on := 2, ground := Ground.guard }], guard := some (2, true) }) (v := ?_) rfl (by kernel_rfl) (by kernel_rfl) (by kernel_rfl) (fun _ _ _ h => h) (Or.inl ⟨by rfl, ?hy68⟩) hS0 ?_
    case hy68 => (intro V hSw; (try dsimp only at hSw); have q3 := grow_cellO hSw.out (block_lt_of_cell c3) c3; have q4 := grow_cellO hSw.out (block_lt_of_cell c4) c4; clear hSw; go_simp; try with_reducible rfl)
    try simp only [Act.put, List.setIfInBounds_toArray, List.set_cons_zero, List.set_cons_succ]
    refine wpAnyH_ready (rs := [8]) (by kernel_rfl) (by simp) (AllReadyH.cons rfl (fun K hK => ?_) AllReadyH.nil)
    go_simp
    refine (Hke.out _ hS0.out).mono ?_
    rintro e wv69 ⟨vk, kt, rfl, hkt, -, hst, hv69⟩
    obtain rfl : ks = kt := keys_uniq Hks.out hkt
    obtain ⟨ka, kc, rfl⟩ := own_slice hst
    have hS69 := Lib.hid (hS0.out.trans (hv69.mono hS0.out.size))
    have Hst := Lib.hid hst
    clear hv69 hst hkt
    refine hK.out _ _ hS69 (fun _ => ?_)
    clear hK K
    try simp only [Act.put, List.setIfInBounds_toArray, List.set_cons_zero, List.set_cons_succ]
    refine wpAnyH_ready (rs := [13]) (by kernel_rfl) (by simp) (AllReadyH.cons rfl (fun K hK => ?_) AllReadyH.nil)
    go_simp
    refine (within_any _ ks key to _ _ Hst.out Hkl.out Hks.out.le (by unfold maxLen; omega) (by unfold maxLen; omega)).mono ?_
    rintro e wv70 ⟨vr, rfl, hsr, hv70⟩
    obtain ⟨ra, rc, rfl⟩ := own_slice hsr
    have hS70 := Lib.hid (hS69.out.trans (hv70.mono hS69.out.size))
    have Hsr := Lib.hid hsr
    clear hv70 hsr
    refine hK.out _ _ hS70 (fun _ => ?_)
    clear hK K
    try simp only [Act.put, List.setIfInBounds_toArray, List.set_cons_zero, List.set_cons_succ]
    refine wpAnyH_ready (rs := [14]) (by kernel_rfl) (by simp) (AllReadyH.cons rfl (fun K hK => ?_) AllReadyH.nil)
    go_simp
    refine (His.out _ _ _ () hS70.out Hsr.out).mono ?_
    rintro e wv71 ⟨rfl, hv71⟩
    have hS71 := Lib.hid (hS70.out.trans (hv71.mono hS70.out.size))
    clear hv71
    refine hK.out _ _ hS71 (fun _ => ?_)
    clear hK K
    try simp only [Act.put, List.setIfInBounds_toArray, List.set_cons_zero, List.set_cons_succ]
    refine wpAnyH_take (i := 15) (oi := { dst := some 157, op := Op.pick (Operand.tmp 144) (Operand.tmp 156) (Operand.const (Value.bool false)), type := 4, pos := "law.go:188", after := #[{ on := 2, ground := Ground.data }, { on := 14, ground := Ground.data }], guard := none }) (v := ?_) rfl (by kernel_rfl) (by kernel_rfl) (by kernel_rfl) (fun _ _ _ h => h) (Or.inl ⟨by rfl, ?hy72⟩) hS71 ?_
    case hy72 => (intro V hSw; (try dsimp only at hSw); clear hSw; go_simp; try with_reducible rfl)
    try simp only [Act.put, List.setIfInBounds_toArray, List.set_cons_zero, List.set_cons_succ]
    refine wpAnyH_ready (rs := [16]) (by kernel_rfl) (by simp) (AllReadyH.cons rfl (fun K hK => ?_) AllReadyH.nil)
    go_simp
    refine hK.out _ _ hS71 (fun _ => ?_)
    clear hK K
    try simp only [Act.put, List.setIfInBounds_toArray, List.set_cons_zero, List.set_cons_succ]
    refine wpAnyH_done (by kernel_rfl) ?_ _
    clear c3 c4
    go_wp2_with fail
    go_ret
    exact ⟨rfl, (HB.out.bel (Hb2.out.trans (hS71.out.mono Hb2.out.size))).more, ((HbA.out.trans ((Hb2.out.trans (hS71.out.mono Hb2.out.size)).mono HbA.out.size)).mono Hlw.out)⟩
  · have Hg := Lib.hid (scan_no mb key to a 203 0 W1 hat (by decide))
    rw [hwn] at Hwr
    clear hlen hB hO hX hXo hrl hwn hat h ho hs4 ha hb hW1 hbA hc1
    go_enter Try.func24, Try.ntmps24
    go_wp2_with fail
    rw [← HW1.out]
    refine Hwr.out.mono ?_
    rintro e w' ⟨rfl, rfl⟩
    clear Hwr
    go_wp2_with fail
    refine Hg.out.mono ?_
    rintro e w2 ⟨rfl, hb2⟩
    have Hb2 := Lib.hid hb2
    clear hb2 c0 c1 c2 c3 c4 c5 Hg
    go_wp2_with fail
    go_ret
    exact ⟨rfl, (HB.out.bel Hb2.out).more, ((HbA.out.trans (Hb2.out.mono HbA.out.size)).mono Hlw.out)⟩
set_option maxHeartbeats 12800000 in
theorem step_snap {W : World} {lo mb xb sb sm im ss is_ as_ : Nat} {most : Int} {k base base2 : Nat} {rm rx : List Wr} {hd : Nat} {S : Int → Option Int} {zs : Nat} {P : Int → Option Nat} {zi : Nat} {L : Nat → List Bo} {A : Nat → Int} {N T : Int → Option Int} {zt : Nat} (h : BothD W lo mb xb sb sm im ss is_ as_ most k base base2 rm rx hd S zs P zi L A N T zt) (hk60 : k ≤ 60) (a b : Int) (key to : ByteArray) (oa : Option Addr) (on oc : Nat) (ops : List Bo) (ho : IsOs W (.slice oa on oc) ops) (hs1 : key.size ≤ 200) (hs2 : to.size ≤ 200) (hs3 : ops.length ≤ 70) (hs4 : ∀ x ∈ ops, x.u.size ≤ 200 ∧ x.v.size ≤ 500) (ha : (Lit.int .i64 a).wf = true) (hb : (Lit.int .i64 b).wf = true) :
    Calls Try.prog 24 #[.pointer (some ⟨mb, 0, none⟩), .pointer (some ⟨xb, 0, none⟩), .pointer (some ⟨sb, 0, none⟩), .agg #[.int .i64 4, .int .i64 a, .int .i64 b, .string key, .string to, .slice oa on oc]] W (StepOut W lo mb xb sb sm im ss is_ as_ most k) := by
  obtain ⟨W1, hW1⟩ : ∃ V, V = W.alloc (.cells #[.int .i64 4, .int .i64 a, .int .i64 b, .string key, .string to, .slice oa on oc] 64) := ⟨_, rfl⟩
  have hbA : Below W.heap.size W W1 := by rw [hW1]; exact (Below.refl _ _).alloc (Nat.le_refl _) _
  have hc1 : W1.heap[W.heap.size]? = some (.cells #[.int .i64 4, .int .i64 a, .int .i64 b, .string key, .string to, .slice oa on oc] 64 (0, 0)) := by rw [hW1]; exact blk_newF rfl _
  have HB := Lib.hid (h.bel hbA)
  have Hwr := Lib.hid (writes_any HB.out.xs a ha)
  have Hlw := Lib.hid h.lw
  have HO := Lib.hid (ho.below hbA)
  have HC := Lib.hid hc1
  have HbA := Lib.hid hbA
  have HW1 := Lib.hid hW1
  have Hs4 := Lib.hid hs4
  have Ha := Lib.hid ha
  have Hbw := Lib.hid hb
  have c0 := (cell_of_blk hc1 0).trans (show _ = some (.int .i64 4) from rfl)
  have c1 := (cell_of_blk hc1 1).trans (show _ = some (.int .i64 a) from rfl)
  have c2 := (cell_of_blk hc1 2).trans (show _ = some (.int .i64 b) from rfl)
  have c3 := (cell_of_blk hc1 3).trans (show _ = some (.string key) from rfl)
  have c4 := (cell_of_blk hc1 4).trans (show _ = some (.string to) from rfl)
  have c5 := (cell_of_blk hc1 5).trans (show _ = some (.slice oa on oc) from rfl)
  by_cases hz : 4 ≤ zs
  · have Hsn := Lib.hid (snap_no HB.out.ms hz)
    have s0 := (cell_of_blk HB.out.xs.st 0).trans (show _ = some (.map (some ss)) from rfl)
    have hlen : (Builtin.len_ #[60] 3 #[.map (some ss)]).run Try.prog W1 = .ok (.int .i64 zs) W1 := HB.out.xs.sn.len 3
    have hz2 : (4 : Int) ≤ (zs : Int) := by omega
    clear h ho hs4 ha hb hW1 hbA hc1
    obtain ⟨nv, hnv⟩ : ∃ q, q = (wrN rx.length S a).getD 0 := ⟨_, rfl⟩
    obtain ⟨okv, hok⟩ : ∃ q, q = (wrN rx.length S a).isSome := ⟨_, rfl⟩
    rw [← hnv, ← hok] at Hwr
    clear hnv hok
    go_enter Try.func24, Try.ntmps24
    go_wp2_with fail
    rw [← HW1.out]
    refine Hwr.out.mono ?_
    rintro e w' ⟨rfl, rfl⟩
    clear Hwr
    go_wp2_with fail
    refine Hsn.out.mono ?_
    rintro e w2 ⟨rfl, rfl⟩
    clear c1 c2 c3 c4 c5 Hsn
    go_wp2_with fail
    go_ret
    exact ⟨rfl, HB.out.more, (HbA.out.mono Hlw.out)⟩
  · have Hsn := Lib.hid (snap_yes HB.out.ms (by omega) (by have := HB.out.hk; omega) (by have := HB.out.rl; omega))
    have hz2 : ¬ (4 : Int) ≤ (zs : Int) := by omega
    clear h ho hs4 ha hb hW1 hbA hc1
    obtain ⟨nv, hnv⟩ : ∃ q, q = (wrN rx.length S a).getD 0 := ⟨_, rfl⟩
    obtain ⟨okv, hok⟩ : ∃ q, q = (wrN rx.length S a).isSome := ⟨_, rfl⟩
    rw [← hnv, ← hok] at Hwr
    clear hnv hok
    go_enter Try.func24, Try.ntmps24
    go_wp2_with fail
    rw [← HW1.out]
    refine Hwr.out.mono ?_
    rintro e w' ⟨rfl, rfl⟩
    clear Hwr
    go_wp2_with fail
    refine Hsn.out.mono ?_
    rintro e W2 ⟨rfl, h2⟩
    obtain ⟨hM2, hk2, hb2⟩ := h2.out
    have hX2 := HB.out.xs.for (hk2.docD hb2.size HB.out.d1 HB.out.d2)
    have HM2 := Lib.hid hM2
    have HX2 := Lib.hid hX2
    have Hb2 := Lib.hid hb2
    have s0 := (cell_of_blk hX2.st 0).trans (show _ = some (.map (some ss)) from rfl)
    have s3 := (cell_of_blk hX2.st 3).trans (show _ = some (.int .i64 (hd : Int)) from rfl)
    have fs3 := frozen_of_blk hX2.st 3
    have hlen : (Builtin.len_ #[60] 3 #[.map (some ss)]).run Try.prog W2 = .ok (.int .i64 zs) W2 := hX2.sn.len 3
    have hhd : hd ≤ 100000 := by have := HB.out.hk; omega
    have hrl : rx.length ≤ 100000 := by have := HB.out.rl; rw [HB.out.len]; omega
    clear h2 hM2 hk2 hb2 hX2 c0 c1 c2 c3 c4 c5 Hsn
    go_upto_region 24 with fail
    have hX3 := HX2.out.setNext (hd + 1) ((hd : Int) + 1) rfl
    have Hk3 := Lib.hid (KeepD.state (ss := ss) (is_ := is_) (as_ := as_) (i := 3) (x := .int .i64 ((hd : Int) + 1)) HX2.out.st)
    have Hb3 := Lib.hid (Hb2.out.setCell (p := ⟨sb, 3, none⟩) HX2.out.l5 (.int .i64 ((hd : Int) + 1)))
    have Hz3 : Hid ((W2.setCell ⟨sb, 3, none⟩ (.int .i64 ((hd : Int) + 1))).heap.size = W2.heap.size) := Lib.hid (by rw [World.size_setCell])
    generalize W2.setCell ⟨sb, 3, none⟩ (.int .i64 ((hd : Int) + 1)) = W3 at *
    obtain ⟨W4, hput, hS4, hg4⟩ := (show OwnsF snT W3.drew ss S zs from hX3.sn.of_blk rfl).put ((hd : Int) + 1) (rx.length : Int) (WalkArith.wf_i64 (by omega)) (WalkArith.wf_i64 (by omega)) (by unfold maxLen; omega)
    have hsn : S ((hd : Int) + 1) = none := by
      cases q : S ((hd : Int) + 1) with
      | none => rfl
      | some m => have := HB.out.ms.sh _ _ q; omega
    rw [hsn] at hS4
    have hg4' : W3.grownBy W4 (some ss) := ⟨hg4.os, hg4.tape, hg4.output, hg4.size, hg4.block⟩
    have hmap := hX3.sn.map
    have hX4 : XS W4 lo base2 xb sb most rx ss is_ as_ (hd + 1) (updF S ((hd : Int) + 1) (some (rx.length : Int))) (zs + 1) N zi T zt := hX3.putS hg4' hS4
    have hk4 := Hk3.out.trans (KeepD.map (is_ := is_) (as_ := as_) hg4' hmap (.inl rfl))
    have hlw : lo ≤ W3.heap.size := by rw [Hz3.out]; exact Nat.le_trans HB.out.lw Hb2.out.size
    have hb4 := Hb3.out.trans (grown_below hg4' hX3.l1 hlw)
    have hM4 := HM2.out.keepD hk4 (by rw [← Hz3.out]; exact hg4'.size) HB.out.d1 HB.out.d2
    have x3 := (cell_of_blk hX3.st 3).trans (show _ = some (.int .i64 ((hd : Int) + 1)) from rfl)
    have x0 := (cell_of_blk hX3.st 0).trans (show _ = some (.map (some ss)) from rfl)
    obtain ⟨ax, cx, hXB, -⟩ := hX3.len
    have xx := (cell_of_blk hXB 0).trans (show _ = some (.slice ax rx.length cx) from rfl)
    have y3 := (cell_of_blk hX4.st 3).trans (show _ = some (.int .i64 ((hd : Int) + 1)) from rfl)
    have HF : Hid (BothD W4 lo mb xb sb sm im ss is_ as_ most (k + 1) base base2 rm rx (hd + 1) (updF S ((hd + 1 : Nat) : Int) (some (rm.length : Int))) (zs + 1) P zi L A N T zt) := Lib.hid (by
      have hB := HB.out
      refine ⟨hM4, ?_, ⟨hB.rel.eq, fun q m hq => ?_, hB.rel.pn, hB.rel.pt⟩, hB.d1, hB.d2, Nat.le_succ_of_le hB.rl, hB.sz, Nat.succ_le_succ hB.hk, ⟨Nat.succ_le_succ hB.zk.1, Nat.le_succ_of_le hB.zk.2.1, Nat.le_succ_of_le hB.zk.2.2⟩, Nat.le_trans hlw hg4'.size, fun q m hq => by have := hB.th q m hq; omega⟩
      · rw [← hB.len]; exact hX4
      · unfold updF at hq
        split at hq
        · injection hq with hq
          exact ⟨rm.length, hq.symm, Nat.le_refl _⟩
        · exact hB.rel.sv q m hq)
    have Hfb := Lib.hid ((HbA.out.mono Hlw.out).trans hb4)
    clear hS4 hg4 hsn hg4' hmap hX4 hk4 hlw hb4 hM4 hX3 hXB Hk3 Hb3 Hz3 HM2 HX2 Hb2
    go_still_tail 13, (by kernel_rfl)
    change wpList _ _ _ _ _ W3.drew
    refine wpList_mapput rfl _ _ _ _ rfl rfl rfl rfl hput ?_
    clear hput x3 x0 xx
    go_wp2_with fail
    go_ret
    exact ⟨rfl, ⟨_, _, _, _, _, _, _, _, _, _, _, _, _, _, HF.out⟩, Hfb.out⟩
set_option maxHeartbeats 12800000 in
theorem step_iter {W : World} {lo mb xb sb sm im ss is_ as_ : Nat} {most : Int} {k base base2 : Nat} {rm rx : List Wr} {hd : Nat} {S : Int → Option Int} {zs : Nat} {P : Int → Option Nat} {zi : Nat} {L : Nat → List Bo} {A : Nat → Int} {N T : Int → Option Int} {zt : Nat} (h : BothD W lo mb xb sb sm im ss is_ as_ most k base base2 rm rx hd S zs P zi L A N T zt) (hk60 : k ≤ 60) (a b : Int) (key to : ByteArray) (oa : Option Addr) (on oc : Nat) (ops : List Bo) (ho : IsOs W (.slice oa on oc) ops) (hs1 : key.size ≤ 200) (hs2 : to.size ≤ 200) (hs3 : ops.length ≤ 70) (hs4 : ∀ x ∈ ops, x.u.size ≤ 200 ∧ x.v.size ≤ 500) (ha : (Lit.int .i64 a).wf = true) (hb : (Lit.int .i64 b).wf = true) :
    Calls Try.prog 24 #[.pointer (some ⟨mb, 0, none⟩), .pointer (some ⟨xb, 0, none⟩), .pointer (some ⟨sb, 0, none⟩), .agg #[.int .i64 5, .int .i64 a, .int .i64 b, .string key, .string to, .slice oa on oc]] W (StepOut W lo mb xb sb sm im ss is_ as_ most k) := by
  obtain ⟨W1, hW1⟩ : ∃ V, V = W.alloc (.cells #[.int .i64 5, .int .i64 a, .int .i64 b, .string key, .string to, .slice oa on oc] 64) := ⟨_, rfl⟩
  have hbA : Below W.heap.size W W1 := by rw [hW1]; exact (Below.refl _ _).alloc (Nat.le_refl _) _
  have hc1 : W1.heap[W.heap.size]? = some (.cells #[.int .i64 5, .int .i64 a, .int .i64 b, .string key, .string to, .slice oa on oc] 64 (0, 0)) := by rw [hW1]; exact blk_newF rfl _
  have HB := Lib.hid (h.bel hbA)
  have Hwr := Lib.hid (writes_any HB.out.xs a ha)
  have Hlw := Lib.hid h.lw
  have HO := Lib.hid (ho.below hbA)
  have HC := Lib.hid hc1
  have HbA := Lib.hid hbA
  have HW1 := Lib.hid hW1
  have Hs4 := Lib.hid hs4
  have Ha := Lib.hid ha
  have Hbw := Lib.hid hb
  have c0 := (cell_of_blk hc1 0).trans (show _ = some (.int .i64 5) from rfl)
  have c1 := (cell_of_blk hc1 1).trans (show _ = some (.int .i64 a) from rfl)
  have c2 := (cell_of_blk hc1 2).trans (show _ = some (.int .i64 b) from rfl)
  have c3 := (cell_of_blk hc1 3).trans (show _ = some (.string key) from rfl)
  have c4 := (cell_of_blk hc1 4).trans (show _ = some (.string to) from rfl)
  have c5 := (cell_of_blk hc1 5).trans (show _ = some (.slice oa on oc) from rfl)
  have hlen := HB.out.len
  obtain ⟨am, cm, hB, hO⟩ := HB.out.ms.mo.ex
  have hrl := HB.out.rl
  rcases HB.out.hand a ha with ⟨n, hn, hwn, hat⟩ | ⟨hwn, hat⟩
  · obtain ⟨hf1, hf2⟩ := HB.out.ops (by omega) n
    have hg := scan_yes mb ⟨#[]⟩ ⟨#[]⟩ a (n : Int) most _ am cm rm _ _ _ W1 hB hO.isWs (by omega) (by rw [flatO_min', Int.toNat_natCast]; exact hf1) (by rw [flatO_min', Int.toNat_natCast]; exact fun x hx => by have := hf2 x hx; omega) hat
    rw [flatO_min', Int.toNat_natCast] at hg
    rw [hwn] at Hwr
    by_cases hz : 16 ≤ zi
    · have Hit := Lib.hid (iter_full HB.out.ms hz a (n : Int) _ hg)
      have hz2 : (16 : Int) ≤ (zi : Int) := by omega
      clear hlen hB hO hrl hn hwn hat hf1 hf2 hg h ho hs4 ha hb hW1 hbA hc1
      go_enter Try.func24, Try.ntmps24
      go_wp2_with fail
      rw [← HW1.out]
      refine Hwr.out.mono ?_
      rintro e w' ⟨rfl, rfl⟩
      clear Hwr
      go_wp2_with fail
      refine Hit.out.mono ?_
      rintro e W2 ⟨rfl, hb2⟩
      have HX2 := Lib.hid (HB.out.xs.bel hb2)
      have s1 := (cell_of_blk HX2.out.st 1).trans (show _ = some (.map (some is_)) from rfl)
      have hlen2 : (Builtin.len_ #[60] 3 #[.map (some is_)]).run Try.prog W2 = .ok (.int .i64 zi) W2 := HX2.out.it.len 3
      have Hb2 := Lib.hid hb2
      clear hb2 c0 c1 c2 c3 c4 c5 Hit
      go_wp2_with fail
      go_ret
      exact ⟨rfl, (HB.out.bel Hb2.out).more, ((HbA.out.trans (Hb2.out.mono HbA.out.size)).mono Hlw.out)⟩
    · have Hit := Lib.hid (iter_yes HB.out.ms (by omega) (by have := HB.out.hk; omega) HB.out.lw a (n : Int) _ hg)
      have hz2 : ¬ (16 : Int) ≤ (zi : Int) := by omega
      have Hn := Lib.hid hn
      clear hlen hB hO hwn hat hf1 hf2 hg hn h ho hs4 ha hb hW1 hbA hc1
      go_enter Try.func24, Try.ntmps24
      go_wp2_with fail
      rw [← HW1.out]
      refine Hwr.out.mono ?_
      rintro e w' ⟨rfl, rfl⟩
      clear Hwr
      go_wp2_with fail
      refine Hit.out.mono ?_
      rintro e W2 ⟨bk, ks, rfl, hks, hkl, hpw, hM2, hk2, hb2⟩
      have hX2 := HB.out.xs.for (hk2.docD hb2.size HB.out.d1 HB.out.d2)
      have HM2 := Lib.hid hM2
      have HX2 := Lib.hid hX2
      have Hb2 := Lib.hid hb2
      have Hks := Lib.hid hks
      have Hpw := Lib.hid hpw
      have s1 := (cell_of_blk hX2.st 1).trans (show _ = some (.map (some is_)) from rfl)
      have s3 := (cell_of_blk hX2.st 3).trans (show _ = some (.int .i64 (hd : Int)) from rfl)
      have fs3 := frozen_of_blk hX2.st 3
      have hlen2 : (Builtin.len_ #[60] 3 #[.map (some is_)]).run Try.prog W2 = .ok (.int .i64 zi) W2 := hX2.it.len 3
      have hhd : hd ≤ 100000 := by have := HB.out.hk; omega
      clear hks hpw hM2 hk2 hb2 hX2 c0 c1 c2 c3 c4 c5 Hit
      go_upto_region 33 with fail
      have HX3 := Lib.hid (HX2.out.setNext (hd + 1) ((hd : Int) + 1) rfl)
      have Hk3 := Lib.hid (KeepD.state (ss := ss) (is_ := is_) (as_ := as_) (i := 3) (x := .int .i64 ((hd : Int) + 1)) HX2.out.st)
      have Hb3 := Lib.hid (Hb2.out.setCell (p := ⟨sb, 3, none⟩) HX2.out.l5 (.int .i64 ((hd : Int) + 1)))
      have Hz3 : Hid ((W2.setCell ⟨sb, 3, none⟩ (.int .i64 ((hd : Int) + 1))).heap.size = W2.heap.size) := Lib.hid (by rw [World.size_setCell])
      generalize W2.setCell ⟨sb, 3, none⟩ (.int .i64 ((hd : Int) + 1)) = W3 at *
      have hNn : N ((hd : Int) + 1) = none := by
        cases q : N ((hd : Int) + 1) with
        | none => rfl
        | some m =>
          have h1 := HB.out.rel.pn ((hd : Int) + 1)
          rw [q] at h1
          obtain ⟨c, hc⟩ := Option.isSome_iff_exists.1 h1
          have := (HB.out.ms.wk _ _ hc).2.2
          omega
      have hTn : T ((hd : Int) + 1) = none := by
        cases q : T ((hd : Int) + 1) with
        | none => rfl
        | some m => have := HB.out.th _ _ q; omega
      have hwf : (Lit.int .i64 ((hd : Int) + 1)).wf = true := WalkArith.wf_i64 (by omega)
      have hzi : zi ≤ 100 := by omega
      have hzt : zt ≤ 100 := by have := HB.out.zk.2.2; omega
      obtain ⟨st1, W4, hr1, hg4, hm4, hst1⟩ := (show OwnsF snT W3.drew is_ N zi from HX3.out.it.of_blk rfl).entry ((hd : Int) + 1) hwf hNn (by unfold maxLen; omega)
      obtain ⟨W5, hr2, hN5, hg5⟩ := hst1 W4 (n : Int) (show (Lit.int .i64 (n : Int)).wf = true from WalkArith.wf_i64 (by have := Hn.out; have := HB.out.rl; omega)) rfl
      have hg35 : W3.grownBy W5 (some is_) := by
        have h1 := grown_trans' hg4 hg5
        exact ⟨h1.os, h1.tape, h1.output, h1.size, h1.block⟩
      have hX5 := HX3.out.putN hg35 hN5
      obtain ⟨st2, W6, hr3, hg6, hm6, hst2⟩ := hX5.at_.entry ((hd : Int) + 1) hwf hTn (by unfold maxLen; omega)
      obtain ⟨W7, hr4, hT7, hg7⟩ := hst2 W6 (-1 : Int) (show (Lit.int .i64 (-1)).wf = true by decide) rfl
      have hg57 := grown_trans' hg6 hg7
      have hX7 := hX5.putT hg57 hT7
      have hk7 := (Hk3.out.trans (KeepD.map (ss := ss) (as_ := as_) hg35 HX3.out.it.map (.inr (.inl rfl)))).trans (KeepD.map (ss := ss) (is_ := is_) hg57 hX5.at_.map (.inr (.inr rfl)))
      have hlw : lo ≤ W3.heap.size := by rw [Hz3.out]; exact Nat.le_trans HB.out.lw Hb2.out.size
      have hb7 := (Hb3.out.trans (grown_below hg35 HX3.out.l2 hlw)).trans (grown_below hg57 hX5.l3 (Nat.le_trans hlw hg35.size))
      have hM7 := HM2.out.keepD hk7 (by rw [← Hz3.out]; exact Nat.le_trans hg35.size hg57.size) HB.out.d1 HB.out.d2
      have Hst3 := Lib.hid HX3.out.st
      have hdr : W3.drew.heap[sb]? = some (.cells #[.map (some ss), .map (some is_), .map (some as_), .int .i64 ((hd : Int) + 1)] 62 (0, 0)) := HX3.out.st
      have hst4 : W4.heap[sb]? = some (.cells #[.map (some ss), .map (some is_), .map (some as_), .int .i64 ((hd : Int) + 1)] 62 (0, 0)) := KeptTy.map hg4 (show ∃ es ck, W3.drew.heap[is_]? = some (.map es ck) from HX3.out.it.map) _ _ _ hdr
      have HS4 := Lib.hid hst4
      have HS5 : Hid (W5.heap[sb]? = some (.cells #[.map (some ss), .map (some is_), .map (some as_), .int .i64 ((hd : Int) + 1)] 62 (0, 0))) := Lib.hid hX5.st
      have HS6 : Hid (W6.heap[sb]? = some (.cells #[.map (some ss), .map (some is_), .map (some as_), .int .i64 ((hd : Int) + 1)] 62 (0, 0))) := Lib.hid (KeptTy.map hg6 hX5.at_.map _ _ _ hX5.st)
      have HS7 : Hid (W7.heap[sb]? = some (.cells #[.map (some ss), .map (some is_), .map (some as_), .int .i64 ((hd : Int) + 1)] 62 (0, 0))) := Lib.hid hX7.st
      have hrun1 : (Instr.mapEntry 60 (.map (some is_)) (.int .i64 ((hd : Int) + 1))).run Try.prog W3.drew = .ok (.tuple #[.int .i64 0, .int .i64 (st1 : Nat)]) W4 := hr1
      have hrun2 : (Instr.entryStore 60 (.map (some is_)) (.int .i64 (st1 : Nat)) (.int .i64 n)).run Try.prog W4 = .ok () W5 := hr2
      have hrun3 : (Instr.mapEntry 60 (.map (some as_)) (.int .i64 ((hd : Int) + 1))).run Try.prog W5 = .ok (.tuple #[.int .i64 0, .int .i64 (st2 : Nat)]) W6 := hr3
      have hrun4 : (Instr.entryStore 60 (.map (some as_)) (.int .i64 (st2 : Nat)) (.int .i64 (-1))).run Try.prog W6 = .ok () W7 := hr4
      have HX7 := Lib.hid hX7
      have HF : Hid (BothD W7 lo mb xb sb sm im ss is_ as_ most (k + 1) base base2 rm rx (hd + 1) S zs (updF P ((hd + 1 : Nat) : Int) (some bk)) (zi + 1) (updW L bk (outO (foldF ((opsOf rm).take n).flatten) ks)) (updA A bk (-1)) (updF N ((hd + 1 : Nat) : Int) (some (n : Int))) (updF T ((hd + 1 : Nat) : Int) (some (-1))) (zt + 1)) := Lib.hid (by
        have hB := HB.out
        refine ⟨hM7, hX7, ⟨hB.rel.eq, hB.rel.sv, fun q => ?_, fun q c hq => ?_⟩, hB.d1, hB.d2, Nat.le_succ_of_le hB.rl, hB.sz, Nat.succ_le_succ hB.hk, ⟨Nat.le_succ_of_le hB.zk.1, Nat.succ_le_succ hB.zk.2.1, Nat.succ_le_succ hB.zk.2.2⟩, Nat.le_trans hlw (Nat.le_trans hg35.size hg57.size), fun q m hq => ?_⟩
        · unfold updF
          split
          · rfl
          · exact hB.rel.pn q
        · unfold updF at hq
          split at hq
          · rename_i he
            injection hq with hq
            subst hq
            refine ⟨n, ks, by unfold updF; rw [if_pos he], Hn.out, Hks.out, hkl, by unfold updW; rw [if_pos rfl], by unfold updF updA; rw [if_pos he, if_pos rfl], by unfold updA; rw [if_pos rfl]; decide, by unfold updA; rw [if_pos rfl]; omega⟩
          · rename_i he
            have hcb : c ≠ bk := fun e => Hpw.out q (by rw [hq, e])
            obtain ⟨n', ks', h1, h2, h3, h4, h5, h6, h7, h8⟩ := hB.rel.pt q c hq
            exact ⟨n', ks', by unfold updF; rw [if_neg he]; exact h1, h2, h3, h4, by unfold updW; rw [if_neg hcb]; exact h5, by unfold updF updA; rw [if_neg he, if_neg hcb]; exact h6, by unfold updA; rw [if_neg hcb]; exact h7, by unfold updA; rw [if_neg hcb]; exact h8⟩
        · unfold updF at hq
          split at hq
          · omega
          · have := hB.th q m hq; omega)
      have Hfb := Lib.hid ((HbA.out.mono Hlw.out).trans hb7)
      have z1 := (cell_of_blk HX3.out.st 1).trans (show _ = some (.map (some is_)) from rfl)
      have z2 := (cell_of_blk HX3.out.st 2).trans (show _ = some (.map (some as_)) from rfl)
      have z3 := (cell_of_blk HX3.out.st 3).trans (show _ = some (.int .i64 ((hd : Int) + 1)) from rfl)
      clear hNn hTn hwf hzi hzt hr1 hg4 hm4 hst1 hr2 hN5 hg5 hg35 hX5 hr3 hg6 hm6 hst2 hr4 hT7 hg7 hg57 hX7 hk7 hlw hb7 hM7 hdr hst4 HX3 Hk3 Hb3 Hz3 HM2 HX2 Hb2
      refine wp_region_held_drew (S := fun V' => Hid (V'.heap[sb]? = some (.cells #[.map (some ss), .map (some is_), .map (some as_), .int .i64 ((hd : Int) + 1)] 62 (0, 0)))) (by kernel_rfl) (Lib.hid Hst3.out) (fun hS0 => ?_)
      refine wpAnyH_take (i := 0) (oi := { dst := some 245, op := Op.move (Operand.tmp 2), type := 59, pos := "law.go:206", after := #[], guard := none }) (v := ?_) rfl (by kernel_rfl) (by kernel_rfl) (by kernel_rfl) (fun _ _ _ h => h) (Or.inl ⟨by rfl, ?hy73⟩) hS0 ?_
      case hy73 => (intro V hSw; (try dsimp only at hSw); clear hSw; go_simp; try with_reducible rfl)
      try simp only [Act.put, List.setIfInBounds_toArray, List.set_cons_zero, List.set_cons_succ]
      refine wpAnyH_take (i := 1) (oi := { dst := some 246, op := Op.nilCheck (Operand.tmp 245), type := 0, pos := "law.go:206", after := #[{ on := 0, ground := Ground.data }], guard := none }) (v := ?_) rfl (by kernel_rfl) (by kernel_rfl) (by kernel_rfl) (fun _ _ _ h => h) (Or.inl ⟨by rfl, ?hy74⟩) hS0 ?_
      case hy74 => (intro V hSw; (try dsimp only at hSw); clear hSw; go_simp; try with_reducible rfl)
      try simp only [Act.put, List.setIfInBounds_toArray, List.set_cons_zero, List.set_cons_succ]
      refine wpAnyH_take (i := 2) (oi := { dst := some 247, op := Op.fieldAddr 62 (Operand.tmp 246) 1, type := 0, pos := "law.go:206", after := #[{ on := 1, ground := Ground.data }], guard := none }) (v := ?_) rfl (by kernel_rfl) (by kernel_rfl) (by kernel_rfl) (fun _ _ _ h => h) (Or.inl ⟨by rfl, ?hy75⟩) hS0 ?_
      case hy75 => (intro V hSw; (try dsimp only at hSw); clear hSw; go_simp; try with_reducible rfl)
      try simp only [Act.put, List.setIfInBounds_toArray, List.set_cons_zero, List.set_cons_succ]
      refine wpAnyH_take (i := 3) (oi := { dst := some 248, op := Op.load 60 (Operand.tmp 247), type := 60, pos := "law.go:206", after := #[{ on := 2, ground := Ground.data }], guard := none }) (v := ?_) rfl (by kernel_rfl) (by kernel_rfl) (by kernel_rfl) (fun _ _ _ h => h) (Or.inl ⟨by rfl, ?hy76⟩) hS0 ?_
      case hy76 => (intro V hSw; (try dsimp only at hSw); have q1 := (cell_of_blk hSw.out 1).trans (show _ = some (.map (some is_)) from rfl); have q2 := (cell_of_blk hSw.out 2).trans (show _ = some (.map (some as_)) from rfl); have q3 := (cell_of_blk hSw.out 3).trans (show _ = some (.int .i64 ((hd : Int) + 1)) from rfl); clear hSw; go_simp; try with_reducible rfl)
      try simp only [Act.put, List.setIfInBounds_toArray, List.set_cons_zero, List.set_cons_succ]
      refine wpAnyH_take (i := 4) (oi := { dst := some 249, op := Op.move (Operand.tmp 2), type := 59, pos := "law.go:206", after := #[], guard := none }) (v := ?_) rfl (by kernel_rfl) (by kernel_rfl) (by kernel_rfl) (fun _ _ _ h => h) (Or.inl ⟨by rfl, ?hy77⟩) hS0 ?_
      case hy77 => (intro V hSw; (try dsimp only at hSw); clear hSw; go_simp; try with_reducible rfl)
      try simp only [Act.put, List.setIfInBounds_toArray, List.set_cons_zero, List.set_cons_succ]
      refine wpAnyH_take (i := 5) (oi := { dst := some 250, op := Op.nilCheck (Operand.tmp 249), type := 0, pos := "law.go:206", after := #[{ on := 4, ground := Ground.data }], guard := none }) (v := ?_) rfl (by kernel_rfl) (by kernel_rfl) (by kernel_rfl) (fun _ _ _ h => h) (Or.inl ⟨by rfl, ?hy78⟩) hS0 ?_
      case hy78 => (intro V hSw; (try dsimp only at hSw); clear hSw; go_simp; try with_reducible rfl)
      try simp only [Act.put, List.setIfInBounds_toArray, List.set_cons_zero, List.set_cons_succ]
      refine wpAnyH_take (i := 6) (oi := { dst := some 251, op := Op.fieldAddr 62 (Operand.tmp 250) 3, type := 0, pos := "law.go:206", after := #[{ on := 5, ground := Ground.data }], guard := none }) (v := ?_) rfl (by kernel_rfl) (by kernel_rfl) (by kernel_rfl) (fun _ _ _ h => h) (Or.inl ⟨by rfl, ?hy79⟩) hS0 ?_
      case hy79 => (intro V hSw; (try dsimp only at hSw); clear hSw; go_simp; try with_reducible rfl)
      try simp only [Act.put, List.setIfInBounds_toArray, List.set_cons_zero, List.set_cons_succ]
      refine wpAnyH_take (i := 7) (oi := { dst := some 252, op := Op.load 3 (Operand.tmp 251), type := 3, pos := "law.go:206", after := #[{ on := 6, ground := Ground.data }], guard := none }) (v := ?_) rfl (by kernel_rfl) (by kernel_rfl) (by kernel_rfl) (fun _ _ _ h => h) (Or.inl ⟨by rfl, ?hy80⟩) hS0 ?_
      case hy80 => (intro V hSw; (try dsimp only at hSw); have q1 := (cell_of_blk hSw.out 1).trans (show _ = some (.map (some is_)) from rfl); have q2 := (cell_of_blk hSw.out 2).trans (show _ = some (.map (some as_)) from rfl); have q3 := (cell_of_blk hSw.out 3).trans (show _ = some (.int .i64 ((hd : Int) + 1)) from rfl); clear hSw; go_simp; try with_reducible rfl)
      try simp only [Act.put, List.setIfInBounds_toArray, List.set_cons_zero, List.set_cons_succ]
      refine wpAnyH_take (i := 8) (oi := { dst := some 253, op := Op.move (Operand.tmp 2), type := 59, pos := "law.go:206", after := #[], guard := none }) (v := ?_) rfl (by kernel_rfl) (by kernel_rfl) (by kernel_rfl) (fun _ _ _ h => h) (Or.inl ⟨by rfl, ?hy81⟩) hS0 ?_
      case hy81 => (intro V hSw; (try dsimp only at hSw); clear hSw; go_simp; try with_reducible rfl)
      try simp only [Act.put, List.setIfInBounds_toArray, List.set_cons_zero, List.set_cons_succ]
      refine wpAnyH_take (i := 9) (oi := { dst := some 254, op := Op.nilCheck (Operand.tmp 253), type := 0, pos := "law.go:206", after := #[{ on := 8, ground := Ground.data }], guard := none }) (v := ?_) rfl (by kernel_rfl) (by kernel_rfl) (by kernel_rfl) (fun _ _ _ h => h) (Or.inl ⟨by rfl, ?hy82⟩) hS0 ?_
      case hy82 => (intro V hSw; (try dsimp only at hSw); clear hSw; go_simp; try with_reducible rfl)
      try simp only [Act.put, List.setIfInBounds_toArray, List.set_cons_zero, List.set_cons_succ]
      refine wpAnyH_take (i := 10) (oi := { dst := some 255, op := Op.fieldAddr 62 (Operand.tmp 254) 2, type := 0, pos := "law.go:206", after := #[{ on := 9, ground := Ground.data }], guard := none }) (v := ?_) rfl (by kernel_rfl) (by kernel_rfl) (by kernel_rfl) (fun _ _ _ h => h) (Or.inl ⟨by rfl, ?hy83⟩) hS0 ?_
      case hy83 => (intro V hSw; (try dsimp only at hSw); clear hSw; go_simp; try with_reducible rfl)
      try simp only [Act.put, List.setIfInBounds_toArray, List.set_cons_zero, List.set_cons_succ]
      refine wpAnyH_take (i := 11) (oi := { dst := some 256, op := Op.load 60 (Operand.tmp 255), type := 60, pos := "law.go:206", after := #[{ on := 10, ground := Ground.data }], guard := none }) (v := ?_) rfl (by kernel_rfl) (by kernel_rfl) (by kernel_rfl) (fun _ _ _ h => h) (Or.inl ⟨by rfl, ?hy84⟩) hS0 ?_
      case hy84 => (intro V hSw; (try dsimp only at hSw); have q1 := (cell_of_blk hSw.out 1).trans (show _ = some (.map (some is_)) from rfl); have q2 := (cell_of_blk hSw.out 2).trans (show _ = some (.map (some as_)) from rfl); have q3 := (cell_of_blk hSw.out 3).trans (show _ = some (.int .i64 ((hd : Int) + 1)) from rfl); clear hSw; go_simp; try with_reducible rfl)
      try simp only [Act.put, List.setIfInBounds_toArray, List.set_cons_zero, List.set_cons_succ]
      refine wpAnyH_take (i := 12) (oi := { dst := some 257, op := Op.move (Operand.tmp 2), type := 59, pos := "law.go:206", after := #[], guard := none }) (v := ?_) rfl (by kernel_rfl) (by kernel_rfl) (by kernel_rfl) (fun _ _ _ h => h) (Or.inl ⟨by rfl, ?hy85⟩) hS0 ?_
      case hy85 => (intro V hSw; (try dsimp only at hSw); clear hSw; go_simp; try with_reducible rfl)
      try simp only [Act.put, List.setIfInBounds_toArray, List.set_cons_zero, List.set_cons_succ]
      refine wpAnyH_take (i := 13) (oi := { dst := some 258, op := Op.nilCheck (Operand.tmp 257), type := 0, pos := "law.go:206", after := #[{ on := 12, ground := Ground.data }], guard := none }) (v := ?_) rfl (by kernel_rfl) (by kernel_rfl) (by kernel_rfl) (fun _ _ _ h => h) (Or.inl ⟨by rfl, ?hy86⟩) hS0 ?_
      case hy86 => (intro V hSw; (try dsimp only at hSw); clear hSw; go_simp; try with_reducible rfl)
      try simp only [Act.put, List.setIfInBounds_toArray, List.set_cons_zero, List.set_cons_succ]
      refine wpAnyH_take (i := 14) (oi := { dst := some 259, op := Op.fieldAddr 62 (Operand.tmp 258) 3, type := 0, pos := "law.go:206", after := #[{ on := 13, ground := Ground.data }], guard := none }) (v := ?_) rfl (by kernel_rfl) (by kernel_rfl) (by kernel_rfl) (fun _ _ _ h => h) (Or.inl ⟨by rfl, ?hy87⟩) hS0 ?_
      case hy87 => (intro V hSw; (try dsimp only at hSw); clear hSw; go_simp; try with_reducible rfl)
      try simp only [Act.put, List.setIfInBounds_toArray, List.set_cons_zero, List.set_cons_succ]
      refine wpAnyH_take (i := 15) (oi := { dst := some 260, op := Op.load 3 (Operand.tmp 259), type := 3, pos := "law.go:206", after := #[{ on := 14, ground := Ground.data }], guard := none }) (v := ?_) rfl (by kernel_rfl) (by kernel_rfl) (by kernel_rfl) (fun _ _ _ h => h) (Or.inl ⟨by rfl, ?hy88⟩) hS0 ?_
      case hy88 => (intro V hSw; (try dsimp only at hSw); have q1 := (cell_of_blk hSw.out 1).trans (show _ = some (.map (some is_)) from rfl); have q2 := (cell_of_blk hSw.out 2).trans (show _ = some (.map (some as_)) from rfl); have q3 := (cell_of_blk hSw.out 3).trans (show _ = some (.int .i64 ((hd : Int) + 1)) from rfl); clear hSw; go_simp; try with_reducible rfl)
      try simp only [Act.put, List.setIfInBounds_toArray, List.set_cons_zero, List.set_cons_succ]
      refine wpAnyH_take (i := 16) (oi := { dst := some 261, op := Op.move (Operand.tmp 9), type := 3, pos := "law.go:206", after := #[{ on := 17, ground := Ground.gcOnly Departure.tupleMapEntryFirst }], guard := none }) (v := ?_) rfl (by kernel_rfl) (by kernel_rfl) (by kernel_rfl) (fun _ _ _ h => h) (Or.inl ⟨by rfl, ?hy89⟩) hS0 ?_
      case hy89 => (intro V hSw; (try dsimp only at hSw); clear hSw; go_simp; try with_reducible rfl)
      try simp only [Act.put, List.setIfInBounds_toArray, List.set_cons_zero, List.set_cons_succ]
      refine wpAnyH_ready (rs := [17]) (by kernel_rfl) (by simp) (AllReadyH.cons rfl (fun K hK => ?_) AllReadyH.nil)
      have hS90 := HS4
      go_simp
      refine hK.out _ _ hS90 (fun _ => ?_)
      clear hK K
      try simp only [Act.put, List.setIfInBounds_toArray, List.set_cons_zero, List.set_cons_succ]
      refine wpAnyH_take (i := 18) (oi := { dst := some 263, op := Op.extract (Operand.tmp 262) 1, type := 3, pos := "law.go:206", after := #[{ on := 17, ground := Ground.data }], guard := none }) (v := ?_) rfl (by kernel_rfl) (by kernel_rfl) (by kernel_rfl) (fun _ _ _ h => h) (Or.inl ⟨by rfl, ?hy91⟩) hS90 ?_
      case hy91 => (intro V hSw; (try dsimp only at hSw); clear hSw; go_simp; try with_reducible rfl)
      try simp only [Act.put, List.setIfInBounds_toArray, List.set_cons_zero, List.set_cons_succ]
      refine wpAnyH_ready (rs := [19]) (by kernel_rfl) (by simp) (AllReadyH.cons rfl (fun K hK => ?_) AllReadyH.nil)
      have hS92 := HS5
      go_simp
      refine hK.out _ _ hS92 (fun _ => ?_)
      clear hK K
      try simp only [Act.put, List.setIfInBounds_toArray, List.set_cons_zero, List.set_cons_succ]
      refine wpAnyH_ready (rs := [20]) (by kernel_rfl) (by simp) (AllReadyH.cons rfl (fun K hK => ?_) AllReadyH.nil)
      have hS93 := HS6
      go_simp
      refine hK.out _ _ hS93 (fun _ => ?_)
      clear hK K
      try simp only [Act.put, List.setIfInBounds_toArray, List.set_cons_zero, List.set_cons_succ]
      refine wpAnyH_take (i := 21) (oi := { dst := some 265, op := Op.extract (Operand.tmp 264) 1, type := 3, pos := "law.go:206", after := #[{ on := 20, ground := Ground.data }], guard := none }) (v := ?_) rfl (by kernel_rfl) (by kernel_rfl) (by kernel_rfl) (fun _ _ _ h => h) (Or.inl ⟨by rfl, ?hy94⟩) hS93 ?_
      case hy94 => (intro V hSw; (try dsimp only at hSw); clear hSw; go_simp; try with_reducible rfl)
      try simp only [Act.put, List.setIfInBounds_toArray, List.set_cons_zero, List.set_cons_succ]
      refine wpAnyH_ready (rs := [22]) (by kernel_rfl) (by simp) (AllReadyH.cons rfl (fun K hK => ?_) AllReadyH.nil)
      have hS95 := HS7
      go_simp
      refine hK.out _ _ hS95 (fun _ => ?_)
      clear hK K
      try simp only [Act.put, List.setIfInBounds_toArray, List.set_cons_zero, List.set_cons_succ]
      refine wpAnyH_done (by kernel_rfl) ?_ _
      clear z1 z2 z3 hrun1 hrun2 hrun3 hrun4
      have k3 := (cell_of_blk HX7.out.st 3).trans (show _ = some (.int .i64 ((hd : Int) + 1)) from rfl)
      go_wp2_with fail
      go_ret
      exact ⟨rfl, ⟨_, _, _, _, _, _, _, _, _, _, _, _, _, _, HF.out⟩, Hfb.out⟩
  · have Hit := Lib.hid (iter_no (W := W1) (mb := mb) a 0 203 hat (by decide))
    rw [hwn] at Hwr
    clear hlen hB hO hrl hwn hat h ho hs4 ha hb hW1 hbA hc1
    go_enter Try.func24, Try.ntmps24
    go_wp2_with fail
    rw [← HW1.out]
    refine Hwr.out.mono ?_
    rintro e w' ⟨rfl, rfl⟩
    clear Hwr
    go_wp2_with fail
    refine Hit.out.mono ?_
    rintro e w2 ⟨rfl, hb2⟩
    have Hb2 := Lib.hid hb2
    clear hb2 c0 c1 c2 c3 c4 c5 Hit
    go_wp2_with fail
    go_ret
    exact ⟨rfl, (HB.out.bel Hb2.out).more, ((HbA.out.trans (Hb2.out.mono HbA.out.size)).mono Hlw.out)⟩
set_option maxHeartbeats 12800000 in
theorem step_move {W : World} {lo mb xb sb sm im ss is_ as_ : Nat} {most : Int} {k base base2 : Nat} {rm rx : List Wr} {hd : Nat} {S : Int → Option Int} {zs : Nat} {P : Int → Option Nat} {zi : Nat} {L : Nat → List Bo} {A : Nat → Int} {N T : Int → Option Int} {zt : Nat} (h : BothD W lo mb xb sb sm im ss is_ as_ most k base base2 rm rx hd S zs P zi L A N T zt) (hk60 : k ≤ 60) (a b : Int) (key to : ByteArray) (oa : Option Addr) (on oc : Nat) (ops : List Bo) (ho : IsOs W (.slice oa on oc) ops) (hs1 : key.size ≤ 200) (hs2 : to.size ≤ 200) (hs3 : ops.length ≤ 70) (hs4 : ∀ x ∈ ops, x.u.size ≤ 200 ∧ x.v.size ≤ 500) (ha : (Lit.int .i64 a).wf = true) (hb : (Lit.int .i64 b).wf = true) :
    Calls Try.prog 24 #[.pointer (some ⟨mb, 0, none⟩), .pointer (some ⟨xb, 0, none⟩), .pointer (some ⟨sb, 0, none⟩), .agg #[.int .i64 6, .int .i64 a, .int .i64 b, .string key, .string to, .slice oa on oc]] W (StepOut W lo mb xb sb sm im ss is_ as_ most k) := by
  obtain ⟨W1, hW1⟩ : ∃ V, V = W.alloc (.cells #[.int .i64 6, .int .i64 a, .int .i64 b, .string key, .string to, .slice oa on oc] 64) := ⟨_, rfl⟩
  have hbA : Below W.heap.size W W1 := by rw [hW1]; exact (Below.refl _ _).alloc (Nat.le_refl _) _
  have hc1 : W1.heap[W.heap.size]? = some (.cells #[.int .i64 6, .int .i64 a, .int .i64 b, .string key, .string to, .slice oa on oc] 64 (0, 0)) := by rw [hW1]; exact blk_newF rfl _
  have HB := Lib.hid (h.bel hbA)
  have Hwr := Lib.hid (writes_any HB.out.xs a ha)
  have Hlw := Lib.hid h.lw
  have HO := Lib.hid (ho.below hbA)
  have HC := Lib.hid hc1
  have HbA := Lib.hid hbA
  have HW1 := Lib.hid hW1
  have Hs4 := Lib.hid hs4
  have Ha := Lib.hid ha
  have Hbw := Lib.hid hb
  have c0 := (cell_of_blk hc1 0).trans (show _ = some (.int .i64 6) from rfl)
  have c1 := (cell_of_blk hc1 1).trans (show _ = some (.int .i64 a) from rfl)
  have c2 := (cell_of_blk hc1 2).trans (show _ = some (.int .i64 b) from rfl)
  have c3 := (cell_of_blk hc1 3).trans (show _ = some (.string key) from rfl)
  have c4 := (cell_of_blk hc1 4).trans (show _ = some (.string to) from rfl)
  have c5 := (cell_of_blk hc1 5).trans (show _ = some (.slice oa on oc) from rfl)
  have hlkp : ∀ v : Value, elF snT (N a) = v → ∀ X : World, XS X lo base2 xb sb most rx ss is_ as_ hd S zs N zi T zt → (Instr.lookup 60 (.map (some is_)) (.int .i64 a) true).run Try.prog X = .ok (.tuple #[v, .bool (P a).isSome]) X := fun v hv X hX => by
    have := hX.it.look_ok a ha
    rw [hv, ← HB.out.rel.pn a] at this
    exact this
  cases hP : P a with
  | none =>
    have hmv := move_no HB.out.ms a b key ha hP
    rw [hP] at hlkp
    have hNn : N a = none := by
      have := HB.out.rel.pn a
      rw [hP] at this
      cases q : N a with
      | none => rfl
      | some m => rw [q] at this; cases this
    have Hlk : Hid (∀ X : World, XS X lo base2 xb sb most rx ss is_ as_ hd S zs N zi T zt → (Instr.lookup 60 (.map (some is_)) (.int .i64 a) true).run Try.prog X = .ok (.tuple #[.int .i64 0, .bool false]) X) := Lib.hid (hlkp (.int .i64 0) (by rw [hNn]; rfl))
    have Hmv := Lib.hid hmv
    clear h ho hs4 ha hb hW1 hbA hc1 hlkp hmv hNn hP
    obtain ⟨nv, hnv⟩ : ∃ q, q = (wrN rx.length S a).getD 0 := ⟨_, rfl⟩
    obtain ⟨okv, hok⟩ : ∃ q, q = (wrN rx.length S a).isSome := ⟨_, rfl⟩
    rw [← hnv, ← hok] at Hwr
    clear hnv hok
    go_enter Try.func24, Try.ntmps24
    go_wp2_with fail
    rw [← HW1.out]
    refine Hwr.out.mono ?_
    rintro e w' ⟨rfl, rfl⟩
    clear Hwr
    go_wp2_with fail
    refine Hmv.out.mono ?_
    rintro e W2 ⟨rfl, hb2⟩
    obtain ⟨X3, hX3⟩ : ∃ q, q = W2.alloc (.cells #[.int .i64 0, .string ⟨#[]⟩, .string ⟨#[]⟩] 40) := ⟨_, rfl⟩
    have hb3 : Below W1.heap.size W1 X3 := by rw [hX3]; exact hb2.alloc hb2.size _
    have ho3 : X3.heap[W2.heap.size]? = some (.cells #[.int .i64 0, .string ⟨#[]⟩, .string ⟨#[]⟩] 40 (0, 0)) := by rw [hX3]; exact blk_newF rfl _
    have HX3 := Lib.hid (HB.out.bel hb3)
    have HcX3 := Lib.hid (blk_bels hb3 HC.out)
    have HoX3 := Lib.hid ho3
    have HbX3 := Lib.hid hb3
    have HX3e := Lib.hid hX3
    clear hb2 hX3 hb3 ho3 c0 c1 c2 c3 c4 c5
    go_upto_region 37 with fail
    rw [← HX3e.out]
    have s1 := (cell_of_blk HX3.out.xs.st 1).trans (show _ = some (.map (some is_)) from rfl)
    have k1 := (cell_of_blk HcX3.out 1).trans (show _ = some (.int .i64 a) from rfl)
    have Hl37 := Lib.hid (fun (X : World) (hX : Below X3.heap.size X3 X) => Hlk.out X (HX3.out.xs.bel hX))
    clear HX3e
    refine wp_region_held_drew (S := fun V' => Hid (Below X3.heap.size X3 V')) (by kernel_rfl) (Lib.hid ((Below.refl _ _).drew)) (fun hS0 => ?_)
    refine wpAnyH_take (i := 0) (oi := { dst := some 291, op := Op.move (Operand.tmp 2), type := 59, pos := "law.go:210", after := #[], guard := none }) (v := ?_) rfl (by kernel_rfl) (by kernel_rfl) (by kernel_rfl) (fun _ _ _ h => h) (Or.inl ⟨by rfl, ?hy96⟩) hS0 ?_
    case hy96 => (intro V hSw; (try dsimp only at hSw); clear hSw; go_simp; try with_reducible rfl)
    try simp only [Act.put, List.setIfInBounds_toArray, List.set_cons_zero, List.set_cons_succ]
    refine wpAnyH_take (i := 1) (oi := { dst := some 292, op := Op.nilCheck (Operand.tmp 291), type := 0, pos := "law.go:210", after := #[{ on := 0, ground := Ground.data }], guard := none }) (v := ?_) rfl (by kernel_rfl) (by kernel_rfl) (by kernel_rfl) (fun _ _ _ h => h) (Or.inl ⟨by rfl, ?hy97⟩) hS0 ?_
    case hy97 => (intro V hSw; (try dsimp only at hSw); clear hSw; go_simp; try with_reducible rfl)
    try simp only [Act.put, List.setIfInBounds_toArray, List.set_cons_zero, List.set_cons_succ]
    refine wpAnyH_take (i := 2) (oi := { dst := some 293, op := Op.fieldAddr 62 (Operand.tmp 292) 1, type := 0, pos := "law.go:210", after := #[{ on := 1, ground := Ground.data }], guard := none }) (v := ?_) rfl (by kernel_rfl) (by kernel_rfl) (by kernel_rfl) (fun _ _ _ h => h) (Or.inl ⟨by rfl, ?hy98⟩) hS0 ?_
    case hy98 => (intro V hSw; (try dsimp only at hSw); clear hSw; go_simp; try with_reducible rfl)
    try simp only [Act.put, List.setIfInBounds_toArray, List.set_cons_zero, List.set_cons_succ]
    refine wpAnyH_take (i := 3) (oi := { dst := some 294, op := Op.load 60 (Operand.tmp 293), type := 60, pos := "law.go:210", after := #[{ on := 2, ground := Ground.data }], guard := none }) (v := ?_) rfl (by kernel_rfl) (by kernel_rfl) (by kernel_rfl) (fun _ _ _ h => h) (Or.inl ⟨by rfl, ?hy99⟩) hS0 ?_
    case hy99 => (intro V hSw; (try dsimp only at hSw); have q0 := grow_cellO hSw.out (block_lt_of_cell s1) s1; have q1 := grow_cellO hSw.out (block_lt_of_cell k1) k1; have ql := Hl37.out _ hSw.out; clear hSw; go_simp; try with_reducible rfl)
    try simp only [Act.put, List.setIfInBounds_toArray, List.set_cons_zero, List.set_cons_succ]
    refine wpAnyH_take (i := 4) (oi := { dst := some 295, op := Op.fieldAddr 64 (Operand.tmp 7) 1, type := 0, pos := "law.go:210", after := #[], guard := none }) (v := ?_) rfl (by kernel_rfl) (by kernel_rfl) (by kernel_rfl) (fun _ _ _ h => h) (Or.inl ⟨by rfl, ?hy100⟩) hS0 ?_
    case hy100 => (intro V hSw; (try dsimp only at hSw); clear hSw; go_simp; try with_reducible rfl)
    try simp only [Act.put, List.setIfInBounds_toArray, List.set_cons_zero, List.set_cons_succ]
    refine wpAnyH_take (i := 5) (oi := { dst := some 296, op := Op.load 3 (Operand.tmp 295), type := 3, pos := "law.go:210", after := #[{ on := 4, ground := Ground.data }], guard := none }) (v := ?_) rfl (by kernel_rfl) (by kernel_rfl) (by kernel_rfl) (fun _ _ _ h => h) (Or.inl ⟨by rfl, ?hy101⟩) hS0 ?_
    case hy101 => (intro V hSw; (try dsimp only at hSw); have q0 := grow_cellO hSw.out (block_lt_of_cell s1) s1; have q1 := grow_cellO hSw.out (block_lt_of_cell k1) k1; have ql := Hl37.out _ hSw.out; clear hSw; go_simp; try with_reducible rfl)
    try simp only [Act.put, List.setIfInBounds_toArray, List.set_cons_zero, List.set_cons_succ]
    refine wpAnyH_take (i := 6) (oi := { dst := some 297, op := Op.lookup 60 (Operand.tmp 294) (Operand.tmp 296) true, type := 88, pos := "law.go:210", after := #[{ on := 3, ground := Ground.data }, { on := 5, ground := Ground.data }], guard := none }) (v := ?_) rfl (by kernel_rfl) (by kernel_rfl) (by kernel_rfl) (fun _ _ _ h => h) (Or.inl ⟨by rfl, ?hy102⟩) hS0 ?_
    case hy102 => (intro V hSw; (try dsimp only at hSw); have q0 := grow_cellO hSw.out (block_lt_of_cell s1) s1; have q1 := grow_cellO hSw.out (block_lt_of_cell k1) k1; have ql := Hl37.out _ hSw.out; clear hSw; go_simp; try with_reducible rfl)
    try simp only [Act.put, List.setIfInBounds_toArray, List.set_cons_zero, List.set_cons_succ]
    refine wpAnyH_take (i := 7) (oi := { dst := some 290, op := Op.move (Operand.tmp 297), type := 88, pos := "law.go:210", after := #[{ on := 6, ground := Ground.data }], guard := none }) (v := ?_) rfl (by kernel_rfl) (by kernel_rfl) (by kernel_rfl) (fun _ _ _ h => h) (Or.inl ⟨by rfl, ?hy103⟩) hS0 ?_
    case hy103 => (intro V hSw; (try dsimp only at hSw); clear hSw; go_simp; try with_reducible rfl)
    try simp only [Act.put, List.setIfInBounds_toArray, List.set_cons_zero, List.set_cons_succ]
    refine wpAnyH_take (i := 8) (oi := { dst := some 298, op := Op.extract (Operand.tmp 290) 0, type := 3, pos := "law.go:210", after := #[{ on := 7, ground := Ground.data }], guard := none }) (v := ?_) rfl (by kernel_rfl) (by kernel_rfl) (by kernel_rfl) (fun _ _ _ h => h) (Or.inl ⟨by rfl, ?hy104⟩) hS0 ?_
    case hy104 => (intro V hSw; (try dsimp only at hSw); clear hSw; go_simp; try with_reducible rfl)
    try simp only [Act.put, List.setIfInBounds_toArray, List.set_cons_zero, List.set_cons_succ]
    refine wpAnyH_take (i := 9) (oi := { dst := some 299, op := Op.extract (Operand.tmp 290) 1, type := 4, pos := "law.go:210", after := #[{ on := 7, ground := Ground.data }, { on := 10, ground := Ground.gcOnly Departure.lateStores }], guard := none }) (v := ?_) rfl (by kernel_rfl) (by kernel_rfl) (by kernel_rfl) (fun _ _ _ h => h) (Or.inl ⟨by rfl, ?hy105⟩) hS0 ?_
    case hy105 => (intro V hSw; (try dsimp only at hSw); clear hSw; go_simp; try with_reducible rfl)
    try simp only [Act.put, List.setIfInBounds_toArray, List.set_cons_zero, List.set_cons_succ]
    refine wpAnyH_take (i := 10) (oi := { dst := some 25, op := Op.assign (Operand.tmp 298), type := 3, pos := "law.go:210", after := #[{ on := 8, ground := Ground.data }, { on := 0, ground := Ground.phase }, { on := 1, ground := Ground.phase }, { on := 2, ground := Ground.phase }, { on := 3, ground := Ground.phase }, { on := 4, ground := Ground.phase }, { on := 5, ground := Ground.phase }, { on := 6, ground := Ground.phase }, { on := 7, ground := Ground.phase }, { on := 8, ground := Ground.phase }, { on := 9, ground := Ground.textOnly Departure.lateStores }], guard := none }) (v := ?_) rfl (by kernel_rfl) (by kernel_rfl) (by kernel_rfl) (fun _ _ _ h => h) (Or.inl ⟨by rfl, ?hy106⟩) hS0 ?_
    case hy106 => (intro V hSw; (try dsimp only at hSw); clear hSw; go_simp; try with_reducible rfl)
    try simp only [Act.put, List.setIfInBounds_toArray, List.set_cons_zero, List.set_cons_succ]
    refine wpAnyH_ready (rs := [11]) (by kernel_rfl) (by simp) (AllReadyH.cons rfl (fun K hK => ?_) AllReadyH.nil)
    go_simp
    refine hK.out _ _ hS0 (fun _ => ?_)
    clear hK K
    try simp only [Act.put, List.setIfInBounds_toArray, List.set_cons_zero, List.set_cons_succ]
    refine wpAnyH_done (by kernel_rfl) ?_ _
    have HY4 := Lib.hid (HX3.out.bel hS0.out)
    have HcY4 := Lib.hid (blk_bels hS0.out HcX3.out)
    have HoY4 := Lib.hid (blk_bels hS0.out HoX3.out)
    have HbY4 := Lib.hid (HbX3.out.trans (hS0.out.mono HbX3.out.size))
    clear hS0 s1 k1
    generalize X3.drew = Y4 at *
    have o0 := (cell_of_blk HoY4.out 0).trans (show _ = some (.int .i64 0) from rfl)
    have o1 := (cell_of_blk HoY4.out 1).trans (show _ = some (.string ⟨#[]⟩) from rfl)
    have o2 := (cell_of_blk HoY4.out 2).trans (show _ = some (.string ⟨#[]⟩) from rfl)
    have k2 := (cell_of_blk HcY4.out 2).trans (show _ = some (.int .i64 b) from rfl)
    go_wp2_with fail
    go_ret
    exact ⟨rfl, HY4.out.more, ((HbA.out.trans (HbY4.out.mono HbA.out.size)).mono Hlw.out)⟩
  | some bk =>
    obtain ⟨n, ks, p1, p2, p3, p4, p5, p6, p7, p8⟩ := HB.out.rel.pt a bk hP
    rw [hP] at hlkp
    have Hlk : Hid (∀ X : World, XS X lo base2 xb sb most rx ss is_ as_ hd S zs N zi T zt → (Instr.lookup 60 (.map (some is_)) (.int .i64 a) true).run Try.prog X = .ok (.tuple #[.int .i64 n, .bool true]) X) := Lib.hid (hlkp (.int .i64 n) (by rw [p1]; rfl))
    have hLl : (L bk).length ≤ 100000 := by rw [p5, outO_len]; exact p4
    have hAr : -1 ≤ A bk ∧ A bk < 100000 := by omega
    by_cases hbr : b < 1 ∨ 5 < b
    · have Hmv := Lib.hid (move_range HB.out.ms a b key bk ha hP hbr hLl hAr)
      have hb15 : b < 1 ∨ (¬ b < 1 ∧ 5 < b) := by omega
      clear h ho hs4 ha hb hW1 hbA hc1 hlkp p1 p2 p3 p4 p5 p6 p7 p8 hLl hAr hP hbr
      rcases hb15 with hb1 | ⟨hb1, hb5⟩
      · obtain ⟨nv, hnv⟩ : ∃ q, q = (wrN rx.length S a).getD 0 := ⟨_, rfl⟩
        obtain ⟨okv, hok⟩ : ∃ q, q = (wrN rx.length S a).isSome := ⟨_, rfl⟩
        rw [← hnv, ← hok] at Hwr
        clear hnv hok
        go_enter Try.func24, Try.ntmps24
        go_wp2_with fail
        rw [← HW1.out]
        refine Hwr.out.mono ?_
        rintro e w' ⟨rfl, rfl⟩
        clear Hwr
        go_wp2_with fail
        refine Hmv.out.mono ?_
        rintro e W2 ⟨rfl, hb2⟩
        obtain ⟨X3, hX3⟩ : ∃ q, q = W2.alloc (.cells #[.int .i64 0, .string ⟨#[]⟩, .string ⟨#[]⟩] 40) := ⟨_, rfl⟩
        have hb3 : Below W1.heap.size W1 X3 := by rw [hX3]; exact hb2.alloc hb2.size _
        have ho3 : X3.heap[W2.heap.size]? = some (.cells #[.int .i64 0, .string ⟨#[]⟩, .string ⟨#[]⟩] 40 (0, 0)) := by rw [hX3]; exact blk_newF rfl _
        have HX3 := Lib.hid (HB.out.bel hb3)
        have HcX3 := Lib.hid (blk_bels hb3 HC.out)
        have HoX3 := Lib.hid ho3
        have HbX3 := Lib.hid hb3
        have HX3e := Lib.hid hX3
        clear hb2 hX3 hb3 ho3 c0 c1 c2 c3 c4 c5
        go_upto_region 37 with fail
        rw [← HX3e.out]
        have s1 := (cell_of_blk HX3.out.xs.st 1).trans (show _ = some (.map (some is_)) from rfl)
        have k1 := (cell_of_blk HcX3.out 1).trans (show _ = some (.int .i64 a) from rfl)
        have Hl37 := Lib.hid (fun (X : World) (hX : Below X3.heap.size X3 X) => Hlk.out X (HX3.out.xs.bel hX))
        clear HX3e
        refine wp_region_held_drew (S := fun V' => Hid (Below X3.heap.size X3 V')) (by kernel_rfl) (Lib.hid ((Below.refl _ _).drew)) (fun hS0 => ?_)
        refine wpAnyH_take (i := 0) (oi := { dst := some 291, op := Op.move (Operand.tmp 2), type := 59, pos := "law.go:210", after := #[], guard := none }) (v := ?_) rfl (by kernel_rfl) (by kernel_rfl) (by kernel_rfl) (fun _ _ _ h => h) (Or.inl ⟨by rfl, ?hy107⟩) hS0 ?_
        case hy107 => (intro V hSw; (try dsimp only at hSw); clear hSw; go_simp; try with_reducible rfl)
        try simp only [Act.put, List.setIfInBounds_toArray, List.set_cons_zero, List.set_cons_succ]
        refine wpAnyH_take (i := 1) (oi := { dst := some 292, op := Op.nilCheck (Operand.tmp 291), type := 0, pos := "law.go:210", after := #[{ on := 0, ground := Ground.data }], guard := none }) (v := ?_) rfl (by kernel_rfl) (by kernel_rfl) (by kernel_rfl) (fun _ _ _ h => h) (Or.inl ⟨by rfl, ?hy108⟩) hS0 ?_
        case hy108 => (intro V hSw; (try dsimp only at hSw); clear hSw; go_simp; try with_reducible rfl)
        try simp only [Act.put, List.setIfInBounds_toArray, List.set_cons_zero, List.set_cons_succ]
        refine wpAnyH_take (i := 2) (oi := { dst := some 293, op := Op.fieldAddr 62 (Operand.tmp 292) 1, type := 0, pos := "law.go:210", after := #[{ on := 1, ground := Ground.data }], guard := none }) (v := ?_) rfl (by kernel_rfl) (by kernel_rfl) (by kernel_rfl) (fun _ _ _ h => h) (Or.inl ⟨by rfl, ?hy109⟩) hS0 ?_
        case hy109 => (intro V hSw; (try dsimp only at hSw); clear hSw; go_simp; try with_reducible rfl)
        try simp only [Act.put, List.setIfInBounds_toArray, List.set_cons_zero, List.set_cons_succ]
        refine wpAnyH_take (i := 3) (oi := { dst := some 294, op := Op.load 60 (Operand.tmp 293), type := 60, pos := "law.go:210", after := #[{ on := 2, ground := Ground.data }], guard := none }) (v := ?_) rfl (by kernel_rfl) (by kernel_rfl) (by kernel_rfl) (fun _ _ _ h => h) (Or.inl ⟨by rfl, ?hy110⟩) hS0 ?_
        case hy110 => (intro V hSw; (try dsimp only at hSw); have q0 := grow_cellO hSw.out (block_lt_of_cell s1) s1; have q1 := grow_cellO hSw.out (block_lt_of_cell k1) k1; have ql := Hl37.out _ hSw.out; clear hSw; go_simp; try with_reducible rfl)
        try simp only [Act.put, List.setIfInBounds_toArray, List.set_cons_zero, List.set_cons_succ]
        refine wpAnyH_take (i := 4) (oi := { dst := some 295, op := Op.fieldAddr 64 (Operand.tmp 7) 1, type := 0, pos := "law.go:210", after := #[], guard := none }) (v := ?_) rfl (by kernel_rfl) (by kernel_rfl) (by kernel_rfl) (fun _ _ _ h => h) (Or.inl ⟨by rfl, ?hy111⟩) hS0 ?_
        case hy111 => (intro V hSw; (try dsimp only at hSw); clear hSw; go_simp; try with_reducible rfl)
        try simp only [Act.put, List.setIfInBounds_toArray, List.set_cons_zero, List.set_cons_succ]
        refine wpAnyH_take (i := 5) (oi := { dst := some 296, op := Op.load 3 (Operand.tmp 295), type := 3, pos := "law.go:210", after := #[{ on := 4, ground := Ground.data }], guard := none }) (v := ?_) rfl (by kernel_rfl) (by kernel_rfl) (by kernel_rfl) (fun _ _ _ h => h) (Or.inl ⟨by rfl, ?hy112⟩) hS0 ?_
        case hy112 => (intro V hSw; (try dsimp only at hSw); have q0 := grow_cellO hSw.out (block_lt_of_cell s1) s1; have q1 := grow_cellO hSw.out (block_lt_of_cell k1) k1; have ql := Hl37.out _ hSw.out; clear hSw; go_simp; try with_reducible rfl)
        try simp only [Act.put, List.setIfInBounds_toArray, List.set_cons_zero, List.set_cons_succ]
        refine wpAnyH_take (i := 6) (oi := { dst := some 297, op := Op.lookup 60 (Operand.tmp 294) (Operand.tmp 296) true, type := 88, pos := "law.go:210", after := #[{ on := 3, ground := Ground.data }, { on := 5, ground := Ground.data }], guard := none }) (v := ?_) rfl (by kernel_rfl) (by kernel_rfl) (by kernel_rfl) (fun _ _ _ h => h) (Or.inl ⟨by rfl, ?hy113⟩) hS0 ?_
        case hy113 => (intro V hSw; (try dsimp only at hSw); have q0 := grow_cellO hSw.out (block_lt_of_cell s1) s1; have q1 := grow_cellO hSw.out (block_lt_of_cell k1) k1; have ql := Hl37.out _ hSw.out; clear hSw; go_simp; try with_reducible rfl)
        try simp only [Act.put, List.setIfInBounds_toArray, List.set_cons_zero, List.set_cons_succ]
        refine wpAnyH_take (i := 7) (oi := { dst := some 290, op := Op.move (Operand.tmp 297), type := 88, pos := "law.go:210", after := #[{ on := 6, ground := Ground.data }], guard := none }) (v := ?_) rfl (by kernel_rfl) (by kernel_rfl) (by kernel_rfl) (fun _ _ _ h => h) (Or.inl ⟨by rfl, ?hy114⟩) hS0 ?_
        case hy114 => (intro V hSw; (try dsimp only at hSw); clear hSw; go_simp; try with_reducible rfl)
        try simp only [Act.put, List.setIfInBounds_toArray, List.set_cons_zero, List.set_cons_succ]
        refine wpAnyH_take (i := 8) (oi := { dst := some 298, op := Op.extract (Operand.tmp 290) 0, type := 3, pos := "law.go:210", after := #[{ on := 7, ground := Ground.data }], guard := none }) (v := ?_) rfl (by kernel_rfl) (by kernel_rfl) (by kernel_rfl) (fun _ _ _ h => h) (Or.inl ⟨by rfl, ?hy115⟩) hS0 ?_
        case hy115 => (intro V hSw; (try dsimp only at hSw); clear hSw; go_simp; try with_reducible rfl)
        try simp only [Act.put, List.setIfInBounds_toArray, List.set_cons_zero, List.set_cons_succ]
        refine wpAnyH_take (i := 9) (oi := { dst := some 299, op := Op.extract (Operand.tmp 290) 1, type := 4, pos := "law.go:210", after := #[{ on := 7, ground := Ground.data }, { on := 10, ground := Ground.gcOnly Departure.lateStores }], guard := none }) (v := ?_) rfl (by kernel_rfl) (by kernel_rfl) (by kernel_rfl) (fun _ _ _ h => h) (Or.inl ⟨by rfl, ?hy116⟩) hS0 ?_
        case hy116 => (intro V hSw; (try dsimp only at hSw); clear hSw; go_simp; try with_reducible rfl)
        try simp only [Act.put, List.setIfInBounds_toArray, List.set_cons_zero, List.set_cons_succ]
        refine wpAnyH_take (i := 10) (oi := { dst := some 25, op := Op.assign (Operand.tmp 298), type := 3, pos := "law.go:210", after := #[{ on := 8, ground := Ground.data }, { on := 0, ground := Ground.phase }, { on := 1, ground := Ground.phase }, { on := 2, ground := Ground.phase }, { on := 3, ground := Ground.phase }, { on := 4, ground := Ground.phase }, { on := 5, ground := Ground.phase }, { on := 6, ground := Ground.phase }, { on := 7, ground := Ground.phase }, { on := 8, ground := Ground.phase }, { on := 9, ground := Ground.textOnly Departure.lateStores }], guard := none }) (v := ?_) rfl (by kernel_rfl) (by kernel_rfl) (by kernel_rfl) (fun _ _ _ h => h) (Or.inl ⟨by rfl, ?hy117⟩) hS0 ?_
        case hy117 => (intro V hSw; (try dsimp only at hSw); clear hSw; go_simp; try with_reducible rfl)
        try simp only [Act.put, List.setIfInBounds_toArray, List.set_cons_zero, List.set_cons_succ]
        refine wpAnyH_ready (rs := [11]) (by kernel_rfl) (by simp) (AllReadyH.cons rfl (fun K hK => ?_) AllReadyH.nil)
        go_simp
        refine hK.out _ _ hS0 (fun _ => ?_)
        clear hK K
        try simp only [Act.put, List.setIfInBounds_toArray, List.set_cons_zero, List.set_cons_succ]
        refine wpAnyH_done (by kernel_rfl) ?_ _
        have HY4 := Lib.hid (HX3.out.bel hS0.out)
        have HcY4 := Lib.hid (blk_bels hS0.out HcX3.out)
        have HoY4 := Lib.hid (blk_bels hS0.out HoX3.out)
        have HbY4 := Lib.hid (HbX3.out.trans (hS0.out.mono HbX3.out.size))
        clear hS0 s1 k1
        generalize X3.drew = Y4 at *
        have o0 := (cell_of_blk HoY4.out 0).trans (show _ = some (.int .i64 0) from rfl)
        have o1 := (cell_of_blk HoY4.out 1).trans (show _ = some (.string ⟨#[]⟩) from rfl)
        have o2 := (cell_of_blk HoY4.out 2).trans (show _ = some (.string ⟨#[]⟩) from rfl)
        have k2 := (cell_of_blk HcY4.out 2).trans (show _ = some (.int .i64 b) from rfl)
        go_wp2_with fail
        go_ret
        exact ⟨rfl, HY4.out.more, ((HbA.out.trans (HbY4.out.mono HbA.out.size)).mono Hlw.out)⟩
      · obtain ⟨nv, hnv⟩ : ∃ q, q = (wrN rx.length S a).getD 0 := ⟨_, rfl⟩
        obtain ⟨okv, hok⟩ : ∃ q, q = (wrN rx.length S a).isSome := ⟨_, rfl⟩
        rw [← hnv, ← hok] at Hwr
        clear hnv hok
        go_enter Try.func24, Try.ntmps24
        go_wp2_with fail
        rw [← HW1.out]
        refine Hwr.out.mono ?_
        rintro e w' ⟨rfl, rfl⟩
        clear Hwr
        go_wp2_with fail
        refine Hmv.out.mono ?_
        rintro e W2 ⟨rfl, hb2⟩
        obtain ⟨X3, hX3⟩ : ∃ q, q = W2.alloc (.cells #[.int .i64 0, .string ⟨#[]⟩, .string ⟨#[]⟩] 40) := ⟨_, rfl⟩
        have hb3 : Below W1.heap.size W1 X3 := by rw [hX3]; exact hb2.alloc hb2.size _
        have ho3 : X3.heap[W2.heap.size]? = some (.cells #[.int .i64 0, .string ⟨#[]⟩, .string ⟨#[]⟩] 40 (0, 0)) := by rw [hX3]; exact blk_newF rfl _
        have HX3 := Lib.hid (HB.out.bel hb3)
        have HcX3 := Lib.hid (blk_bels hb3 HC.out)
        have HoX3 := Lib.hid ho3
        have HbX3 := Lib.hid hb3
        have HX3e := Lib.hid hX3
        clear hb2 hX3 hb3 ho3 c0 c1 c2 c3 c4 c5
        go_upto_region 37 with fail
        rw [← HX3e.out]
        have s1 := (cell_of_blk HX3.out.xs.st 1).trans (show _ = some (.map (some is_)) from rfl)
        have k1 := (cell_of_blk HcX3.out 1).trans (show _ = some (.int .i64 a) from rfl)
        have Hl37 := Lib.hid (fun (X : World) (hX : Below X3.heap.size X3 X) => Hlk.out X (HX3.out.xs.bel hX))
        clear HX3e
        refine wp_region_held_drew (S := fun V' => Hid (Below X3.heap.size X3 V')) (by kernel_rfl) (Lib.hid ((Below.refl _ _).drew)) (fun hS0 => ?_)
        refine wpAnyH_take (i := 0) (oi := { dst := some 291, op := Op.move (Operand.tmp 2), type := 59, pos := "law.go:210", after := #[], guard := none }) (v := ?_) rfl (by kernel_rfl) (by kernel_rfl) (by kernel_rfl) (fun _ _ _ h => h) (Or.inl ⟨by rfl, ?hy107⟩) hS0 ?_
        case hy107 => (intro V hSw; (try dsimp only at hSw); clear hSw; go_simp; try with_reducible rfl)
        try simp only [Act.put, List.setIfInBounds_toArray, List.set_cons_zero, List.set_cons_succ]
        refine wpAnyH_take (i := 1) (oi := { dst := some 292, op := Op.nilCheck (Operand.tmp 291), type := 0, pos := "law.go:210", after := #[{ on := 0, ground := Ground.data }], guard := none }) (v := ?_) rfl (by kernel_rfl) (by kernel_rfl) (by kernel_rfl) (fun _ _ _ h => h) (Or.inl ⟨by rfl, ?hy108⟩) hS0 ?_
        case hy108 => (intro V hSw; (try dsimp only at hSw); clear hSw; go_simp; try with_reducible rfl)
        try simp only [Act.put, List.setIfInBounds_toArray, List.set_cons_zero, List.set_cons_succ]
        refine wpAnyH_take (i := 2) (oi := { dst := some 293, op := Op.fieldAddr 62 (Operand.tmp 292) 1, type := 0, pos := "law.go:210", after := #[{ on := 1, ground := Ground.data }], guard := none }) (v := ?_) rfl (by kernel_rfl) (by kernel_rfl) (by kernel_rfl) (fun _ _ _ h => h) (Or.inl ⟨by rfl, ?hy109⟩) hS0 ?_
        case hy109 => (intro V hSw; (try dsimp only at hSw); clear hSw; go_simp; try with_reducible rfl)
        try simp only [Act.put, List.setIfInBounds_toArray, List.set_cons_zero, List.set_cons_succ]
        refine wpAnyH_take (i := 3) (oi := { dst := some 294, op := Op.load 60 (Operand.tmp 293), type := 60, pos := "law.go:210", after := #[{ on := 2, ground := Ground.data }], guard := none }) (v := ?_) rfl (by kernel_rfl) (by kernel_rfl) (by kernel_rfl) (fun _ _ _ h => h) (Or.inl ⟨by rfl, ?hy110⟩) hS0 ?_
        case hy110 => (intro V hSw; (try dsimp only at hSw); have q0 := grow_cellO hSw.out (block_lt_of_cell s1) s1; have q1 := grow_cellO hSw.out (block_lt_of_cell k1) k1; have ql := Hl37.out _ hSw.out; clear hSw; go_simp; try with_reducible rfl)
        try simp only [Act.put, List.setIfInBounds_toArray, List.set_cons_zero, List.set_cons_succ]
        refine wpAnyH_take (i := 4) (oi := { dst := some 295, op := Op.fieldAddr 64 (Operand.tmp 7) 1, type := 0, pos := "law.go:210", after := #[], guard := none }) (v := ?_) rfl (by kernel_rfl) (by kernel_rfl) (by kernel_rfl) (fun _ _ _ h => h) (Or.inl ⟨by rfl, ?hy111⟩) hS0 ?_
        case hy111 => (intro V hSw; (try dsimp only at hSw); clear hSw; go_simp; try with_reducible rfl)
        try simp only [Act.put, List.setIfInBounds_toArray, List.set_cons_zero, List.set_cons_succ]
        refine wpAnyH_take (i := 5) (oi := { dst := some 296, op := Op.load 3 (Operand.tmp 295), type := 3, pos := "law.go:210", after := #[{ on := 4, ground := Ground.data }], guard := none }) (v := ?_) rfl (by kernel_rfl) (by kernel_rfl) (by kernel_rfl) (fun _ _ _ h => h) (Or.inl ⟨by rfl, ?hy112⟩) hS0 ?_
        case hy112 => (intro V hSw; (try dsimp only at hSw); have q0 := grow_cellO hSw.out (block_lt_of_cell s1) s1; have q1 := grow_cellO hSw.out (block_lt_of_cell k1) k1; have ql := Hl37.out _ hSw.out; clear hSw; go_simp; try with_reducible rfl)
        try simp only [Act.put, List.setIfInBounds_toArray, List.set_cons_zero, List.set_cons_succ]
        refine wpAnyH_take (i := 6) (oi := { dst := some 297, op := Op.lookup 60 (Operand.tmp 294) (Operand.tmp 296) true, type := 88, pos := "law.go:210", after := #[{ on := 3, ground := Ground.data }, { on := 5, ground := Ground.data }], guard := none }) (v := ?_) rfl (by kernel_rfl) (by kernel_rfl) (by kernel_rfl) (fun _ _ _ h => h) (Or.inl ⟨by rfl, ?hy113⟩) hS0 ?_
        case hy113 => (intro V hSw; (try dsimp only at hSw); have q0 := grow_cellO hSw.out (block_lt_of_cell s1) s1; have q1 := grow_cellO hSw.out (block_lt_of_cell k1) k1; have ql := Hl37.out _ hSw.out; clear hSw; go_simp; try with_reducible rfl)
        try simp only [Act.put, List.setIfInBounds_toArray, List.set_cons_zero, List.set_cons_succ]
        refine wpAnyH_take (i := 7) (oi := { dst := some 290, op := Op.move (Operand.tmp 297), type := 88, pos := "law.go:210", after := #[{ on := 6, ground := Ground.data }], guard := none }) (v := ?_) rfl (by kernel_rfl) (by kernel_rfl) (by kernel_rfl) (fun _ _ _ h => h) (Or.inl ⟨by rfl, ?hy114⟩) hS0 ?_
        case hy114 => (intro V hSw; (try dsimp only at hSw); clear hSw; go_simp; try with_reducible rfl)
        try simp only [Act.put, List.setIfInBounds_toArray, List.set_cons_zero, List.set_cons_succ]
        refine wpAnyH_take (i := 8) (oi := { dst := some 298, op := Op.extract (Operand.tmp 290) 0, type := 3, pos := "law.go:210", after := #[{ on := 7, ground := Ground.data }], guard := none }) (v := ?_) rfl (by kernel_rfl) (by kernel_rfl) (by kernel_rfl) (fun _ _ _ h => h) (Or.inl ⟨by rfl, ?hy115⟩) hS0 ?_
        case hy115 => (intro V hSw; (try dsimp only at hSw); clear hSw; go_simp; try with_reducible rfl)
        try simp only [Act.put, List.setIfInBounds_toArray, List.set_cons_zero, List.set_cons_succ]
        refine wpAnyH_take (i := 9) (oi := { dst := some 299, op := Op.extract (Operand.tmp 290) 1, type := 4, pos := "law.go:210", after := #[{ on := 7, ground := Ground.data }, { on := 10, ground := Ground.gcOnly Departure.lateStores }], guard := none }) (v := ?_) rfl (by kernel_rfl) (by kernel_rfl) (by kernel_rfl) (fun _ _ _ h => h) (Or.inl ⟨by rfl, ?hy116⟩) hS0 ?_
        case hy116 => (intro V hSw; (try dsimp only at hSw); clear hSw; go_simp; try with_reducible rfl)
        try simp only [Act.put, List.setIfInBounds_toArray, List.set_cons_zero, List.set_cons_succ]
        refine wpAnyH_take (i := 10) (oi := { dst := some 25, op := Op.assign (Operand.tmp 298), type := 3, pos := "law.go:210", after := #[{ on := 8, ground := Ground.data }, { on := 0, ground := Ground.phase }, { on := 1, ground := Ground.phase }, { on := 2, ground := Ground.phase }, { on := 3, ground := Ground.phase }, { on := 4, ground := Ground.phase }, { on := 5, ground := Ground.phase }, { on := 6, ground := Ground.phase }, { on := 7, ground := Ground.phase }, { on := 8, ground := Ground.phase }, { on := 9, ground := Ground.textOnly Departure.lateStores }], guard := none }) (v := ?_) rfl (by kernel_rfl) (by kernel_rfl) (by kernel_rfl) (fun _ _ _ h => h) (Or.inl ⟨by rfl, ?hy117⟩) hS0 ?_
        case hy117 => (intro V hSw; (try dsimp only at hSw); clear hSw; go_simp; try with_reducible rfl)
        try simp only [Act.put, List.setIfInBounds_toArray, List.set_cons_zero, List.set_cons_succ]
        refine wpAnyH_ready (rs := [11]) (by kernel_rfl) (by simp) (AllReadyH.cons rfl (fun K hK => ?_) AllReadyH.nil)
        go_simp
        refine hK.out _ _ hS0 (fun _ => ?_)
        clear hK K
        try simp only [Act.put, List.setIfInBounds_toArray, List.set_cons_zero, List.set_cons_succ]
        refine wpAnyH_done (by kernel_rfl) ?_ _
        have HY4 := Lib.hid (HX3.out.bel hS0.out)
        have HcY4 := Lib.hid (blk_bels hS0.out HcX3.out)
        have HoY4 := Lib.hid (blk_bels hS0.out HoX3.out)
        have HbY4 := Lib.hid (HbX3.out.trans (hS0.out.mono HbX3.out.size))
        clear hS0 s1 k1
        generalize X3.drew = Y4 at *
        have o0 := (cell_of_blk HoY4.out 0).trans (show _ = some (.int .i64 0) from rfl)
        have o1 := (cell_of_blk HoY4.out 1).trans (show _ = some (.string ⟨#[]⟩) from rfl)
        have o2 := (cell_of_blk HoY4.out 2).trans (show _ = some (.string ⟨#[]⟩) from rfl)
        have k2 := (cell_of_blk HcY4.out 2).trans (show _ = some (.int .i64 b) from rfl)
        go_wp2_with fail
        go_ret
        exact ⟨rfl, HY4.out.more, ((HbA.out.trans (HbY4.out.mono HbA.out.size)).mono Hlw.out)⟩
    · have hmv := move_yes HB.out.ms a b key bk ha hP (by omega) hLl hAr
      obtain ⟨F, hF⟩ : ∃ F, F = foldF ((opsOf rm).take n).flatten := ⟨_, rfl⟩
      rw [← hF] at p3 p5
      obtain ⟨q, hq⟩ : ∃ q, q = mvQ (outO F ks) b (A bk) key := ⟨_, rfl⟩
      rw [p5, ← hq] at hmv
      have Hmv := Lib.hid hmv
      obtain ⟨hf1, hf2⟩ := HB.out.ops (by omega) n
      have hsm := fun (X : World) (hX : XS X lo base2 xb sb most rx ss is_ as_ hd S zs N zi T zt) (hlx : lo ≤ X.heap.size) => smove_any hX 6 a b key to oa on oc n (A bk) ks ha p1 p6 (by rw [HB.out.rel.eq, ← hF]; exact p3) p4 ⟨p7, p8⟩ (by omega) (by unfold maxLen; omega) (by have := HB.out.rl; rw [HB.out.len]; omega) (by rw [HB.out.rel.eq]; exact hf1) (by rw [HB.out.rel.eq]; exact fun o ho => by have := hf2 o ho; omega) hlx (by have := HB.out.zk.2.2; omega)
      rw [HB.out.rel.eq, ← hF, ← hq] at hsm
      have Hsm := Lib.hid hsm
      have HP := Lib.hid hP
      have Hp := Lib.hid (And.intro p1 (And.intro p2 (And.intro p3 (And.intro p4 (And.intro p5 (And.intro p6 (And.intro p7 p8)))))))
      have HF := Lib.hid hF
      have hb1 : ¬ b < 1 := by omega
      have hb5 : ¬ 5 < b := by omega
      clear h ho hs4 ha hb hW1 hbA hc1 hlkp p1 p2 p3 p4 p5 p6 p7 p8 hLl hAr hP hbr hmv hsm hf1 hf2 hq hF
      obtain ⟨nv, hnv⟩ : ∃ q, q = (wrN rx.length S a).getD 0 := ⟨_, rfl⟩
      obtain ⟨okv, hok⟩ : ∃ q, q = (wrN rx.length S a).isSome := ⟨_, rfl⟩
      rw [← hnv, ← hok] at Hwr
      clear hnv hok
      go_enter Try.func24, Try.ntmps24
      go_wp2_with fail
      rw [← HW1.out]
      refine Hwr.out.mono ?_
      rintro e w' ⟨rfl, rfl⟩
      clear Hwr
      go_wp2_with fail
      refine Hmv.out.mono ?_
      rintro e W2 ⟨rfl, hM2, hk2, hb2, -, -⟩
      have hX2 := HB.out.xs.for (hk2.docD hb2.size HB.out.d1 HB.out.d2)
      have hc2 := hk2 _ _ HC.out (fun _ _ => cells_ne (by decide)) (fun _ _ => cells_ne (by decide)) (fun _ _ => cells_ne (by decide)) (fun ⟨_, _, e⟩ => by cases e)
      rw [Hp.out.2.2.2.2.1]
      obtain ⟨x, hx⟩ : ∃ x, x = mvX (outO F ks) q := ⟨_, rfl⟩
      obtain ⟨fx, hfx⟩ : ∃ fx, fx = mvIn (outO F ks) q := ⟨_, rfl⟩
      rw [← hx, ← hfx]
      have Hxx := Lib.hid hx
      have Hfx := Lib.hid hfx
      obtain ⟨xk, xu, xv⟩ := x
      dsimp only
      obtain ⟨X3, hX3⟩ : ∃ q, q = W2.alloc (.cells #[.int .i64 xk, .string xu, .string xv] 40) := ⟨_, rfl⟩
      have hb3 : Below W2.heap.size W2 X3 := by rw [hX3]; exact (Below.refl _ _).alloc (Nat.le_refl _) _
      have ho3 : X3.heap[W2.heap.size]? = some (.cells #[.int .i64 xk, .string xu, .string xv] 40 (0, 0)) := by rw [hX3]; exact blk_newF rfl _
      obtain ⟨ob, hob⟩ : ∃ q, q = W2.heap.size := ⟨_, rfl⟩
      rw [← hob] at ho3
      have HmX3 := Lib.hid (hM2.bel hb3)
      have HxX3 := Lib.hid (hX2.bel hb3)
      have HcX3 := Lib.hid (blk_bels hb3 hc2)
      have HoX3 := Lib.hid ho3
      have HbX3 := Lib.hid (hb2.trans (hb3.mono (Nat.le_trans HB.out.lw hb2.size)))
      have HX3e := Lib.hid hX3
      have Hob := Lib.hid hob
      clear hM2 hk2 hb2 hX2 hc2 hX3 hb3 ho3 hob hx hfx c0 c1 c2 c3 c4 c5 Hmv
      go_upto_region 37 with fail
      rw [← HX3e.out, ← Hob.out]
      have s1 := (cell_of_blk HxX3.out.st 1).trans (show _ = some (.map (some is_)) from rfl)
      have k1 := (cell_of_blk HcX3.out 1).trans (show _ = some (.int .i64 a) from rfl)
      have Hl37 := Lib.hid (fun (X : World) (hX : Below X3.heap.size X3 X) => Hlk.out X (HxX3.out.bel hX))
      clear HX3e
      refine wp_region_held_drew (S := fun V' => Hid (Below X3.heap.size X3 V')) (by kernel_rfl) (Lib.hid ((Below.refl _ _).drew)) (fun hS0 => ?_)
      refine wpAnyH_take (i := 0) (oi := { dst := some 291, op := Op.move (Operand.tmp 2), type := 59, pos := "law.go:210", after := #[], guard := none }) (v := ?_) rfl (by kernel_rfl) (by kernel_rfl) (by kernel_rfl) (fun _ _ _ h => h) (Or.inl ⟨by rfl, ?hy118⟩) hS0 ?_
      case hy118 => (intro V hSw; (try dsimp only at hSw); clear hSw; go_simp; try with_reducible rfl)
      try simp only [Act.put, List.setIfInBounds_toArray, List.set_cons_zero, List.set_cons_succ]
      refine wpAnyH_take (i := 1) (oi := { dst := some 292, op := Op.nilCheck (Operand.tmp 291), type := 0, pos := "law.go:210", after := #[{ on := 0, ground := Ground.data }], guard := none }) (v := ?_) rfl (by kernel_rfl) (by kernel_rfl) (by kernel_rfl) (fun _ _ _ h => h) (Or.inl ⟨by rfl, ?hy119⟩) hS0 ?_
      case hy119 => (intro V hSw; (try dsimp only at hSw); clear hSw; go_simp; try with_reducible rfl)
      try simp only [Act.put, List.setIfInBounds_toArray, List.set_cons_zero, List.set_cons_succ]
      refine wpAnyH_take (i := 2) (oi := { dst := some 293, op := Op.fieldAddr 62 (Operand.tmp 292) 1, type := 0, pos := "law.go:210", after := #[{ on := 1, ground := Ground.data }], guard := none }) (v := ?_) rfl (by kernel_rfl) (by kernel_rfl) (by kernel_rfl) (fun _ _ _ h => h) (Or.inl ⟨by rfl, ?hy120⟩) hS0 ?_
      case hy120 => (intro V hSw; (try dsimp only at hSw); clear hSw; go_simp; try with_reducible rfl)
      try simp only [Act.put, List.setIfInBounds_toArray, List.set_cons_zero, List.set_cons_succ]
      refine wpAnyH_take (i := 3) (oi := { dst := some 294, op := Op.load 60 (Operand.tmp 293), type := 60, pos := "law.go:210", after := #[{ on := 2, ground := Ground.data }], guard := none }) (v := ?_) rfl (by kernel_rfl) (by kernel_rfl) (by kernel_rfl) (fun _ _ _ h => h) (Or.inl ⟨by rfl, ?hy121⟩) hS0 ?_
      case hy121 => (intro V hSw; (try dsimp only at hSw); have q0 := grow_cellO hSw.out (block_lt_of_cell s1) s1; have q1 := grow_cellO hSw.out (block_lt_of_cell k1) k1; have ql := Hl37.out _ hSw.out; clear hSw; go_simp; try with_reducible rfl)
      try simp only [Act.put, List.setIfInBounds_toArray, List.set_cons_zero, List.set_cons_succ]
      refine wpAnyH_take (i := 4) (oi := { dst := some 295, op := Op.fieldAddr 64 (Operand.tmp 7) 1, type := 0, pos := "law.go:210", after := #[], guard := none }) (v := ?_) rfl (by kernel_rfl) (by kernel_rfl) (by kernel_rfl) (fun _ _ _ h => h) (Or.inl ⟨by rfl, ?hy122⟩) hS0 ?_
      case hy122 => (intro V hSw; (try dsimp only at hSw); clear hSw; go_simp; try with_reducible rfl)
      try simp only [Act.put, List.setIfInBounds_toArray, List.set_cons_zero, List.set_cons_succ]
      refine wpAnyH_take (i := 5) (oi := { dst := some 296, op := Op.load 3 (Operand.tmp 295), type := 3, pos := "law.go:210", after := #[{ on := 4, ground := Ground.data }], guard := none }) (v := ?_) rfl (by kernel_rfl) (by kernel_rfl) (by kernel_rfl) (fun _ _ _ h => h) (Or.inl ⟨by rfl, ?hy123⟩) hS0 ?_
      case hy123 => (intro V hSw; (try dsimp only at hSw); have q0 := grow_cellO hSw.out (block_lt_of_cell s1) s1; have q1 := grow_cellO hSw.out (block_lt_of_cell k1) k1; have ql := Hl37.out _ hSw.out; clear hSw; go_simp; try with_reducible rfl)
      try simp only [Act.put, List.setIfInBounds_toArray, List.set_cons_zero, List.set_cons_succ]
      refine wpAnyH_take (i := 6) (oi := { dst := some 297, op := Op.lookup 60 (Operand.tmp 294) (Operand.tmp 296) true, type := 88, pos := "law.go:210", after := #[{ on := 3, ground := Ground.data }, { on := 5, ground := Ground.data }], guard := none }) (v := ?_) rfl (by kernel_rfl) (by kernel_rfl) (by kernel_rfl) (fun _ _ _ h => h) (Or.inl ⟨by rfl, ?hy124⟩) hS0 ?_
      case hy124 => (intro V hSw; (try dsimp only at hSw); have q0 := grow_cellO hSw.out (block_lt_of_cell s1) s1; have q1 := grow_cellO hSw.out (block_lt_of_cell k1) k1; have ql := Hl37.out _ hSw.out; clear hSw; go_simp; try with_reducible rfl)
      try simp only [Act.put, List.setIfInBounds_toArray, List.set_cons_zero, List.set_cons_succ]
      refine wpAnyH_take (i := 7) (oi := { dst := some 290, op := Op.move (Operand.tmp 297), type := 88, pos := "law.go:210", after := #[{ on := 6, ground := Ground.data }], guard := none }) (v := ?_) rfl (by kernel_rfl) (by kernel_rfl) (by kernel_rfl) (fun _ _ _ h => h) (Or.inl ⟨by rfl, ?hy125⟩) hS0 ?_
      case hy125 => (intro V hSw; (try dsimp only at hSw); clear hSw; go_simp; try with_reducible rfl)
      try simp only [Act.put, List.setIfInBounds_toArray, List.set_cons_zero, List.set_cons_succ]
      refine wpAnyH_take (i := 8) (oi := { dst := some 298, op := Op.extract (Operand.tmp 290) 0, type := 3, pos := "law.go:210", after := #[{ on := 7, ground := Ground.data }], guard := none }) (v := ?_) rfl (by kernel_rfl) (by kernel_rfl) (by kernel_rfl) (fun _ _ _ h => h) (Or.inl ⟨by rfl, ?hy126⟩) hS0 ?_
      case hy126 => (intro V hSw; (try dsimp only at hSw); clear hSw; go_simp; try with_reducible rfl)
      try simp only [Act.put, List.setIfInBounds_toArray, List.set_cons_zero, List.set_cons_succ]
      refine wpAnyH_take (i := 9) (oi := { dst := some 299, op := Op.extract (Operand.tmp 290) 1, type := 4, pos := "law.go:210", after := #[{ on := 7, ground := Ground.data }, { on := 10, ground := Ground.gcOnly Departure.lateStores }], guard := none }) (v := ?_) rfl (by kernel_rfl) (by kernel_rfl) (by kernel_rfl) (fun _ _ _ h => h) (Or.inl ⟨by rfl, ?hy127⟩) hS0 ?_
      case hy127 => (intro V hSw; (try dsimp only at hSw); clear hSw; go_simp; try with_reducible rfl)
      try simp only [Act.put, List.setIfInBounds_toArray, List.set_cons_zero, List.set_cons_succ]
      refine wpAnyH_take (i := 10) (oi := { dst := some 25, op := Op.assign (Operand.tmp 298), type := 3, pos := "law.go:210", after := #[{ on := 8, ground := Ground.data }, { on := 0, ground := Ground.phase }, { on := 1, ground := Ground.phase }, { on := 2, ground := Ground.phase }, { on := 3, ground := Ground.phase }, { on := 4, ground := Ground.phase }, { on := 5, ground := Ground.phase }, { on := 6, ground := Ground.phase }, { on := 7, ground := Ground.phase }, { on := 8, ground := Ground.phase }, { on := 9, ground := Ground.textOnly Departure.lateStores }], guard := none }) (v := ?_) rfl (by kernel_rfl) (by kernel_rfl) (by kernel_rfl) (fun _ _ _ h => h) (Or.inl ⟨by rfl, ?hy128⟩) hS0 ?_
      case hy128 => (intro V hSw; (try dsimp only at hSw); clear hSw; go_simp; try with_reducible rfl)
      try simp only [Act.put, List.setIfInBounds_toArray, List.set_cons_zero, List.set_cons_succ]
      refine wpAnyH_ready (rs := [11]) (by kernel_rfl) (by simp) (AllReadyH.cons rfl (fun K hK => ?_) AllReadyH.nil)
      go_simp
      refine hK.out _ _ hS0 (fun _ => ?_)
      clear hK K
      try simp only [Act.put, List.setIfInBounds_toArray, List.set_cons_zero, List.set_cons_succ]
      refine wpAnyH_done (by kernel_rfl) ?_ _
      have HmY := Lib.hid (HmX3.out.bel hS0.out)
      have HxY := Lib.hid (HxX3.out.bel hS0.out)
      have HcY := Lib.hid (blk_bels hS0.out HcX3.out)
      have HoY := Lib.hid (blk_bels hS0.out HoX3.out)
      have HlX : Hid (lo ≤ X3.heap.size) := Lib.hid (Nat.le_trans HB.out.lw HbX3.out.size)
      have HbY := Lib.hid (HbX3.out.trans (hS0.out.mono HlX.out))
      have HlY := Lib.hid (Nat.le_trans HlX.out hS0.out.size)
      clear hS0 s1 k1 HmX3 HxX3 HcX3 HoX3 HbX3 HlX
      generalize X3.drew = Y4 at *
      have k0 := (cell_of_blk HcY.out 0).trans (show _ = some (.int .i64 6) from rfl)
      have k1 := (cell_of_blk HcY.out 1).trans (show _ = some (.int .i64 a) from rfl)
      have k2 := (cell_of_blk HcY.out 2).trans (show _ = some (.int .i64 b) from rfl)
      have k3 := (cell_of_blk HcY.out 3).trans (show _ = some (.string key) from rfl)
      have k4 := (cell_of_blk HcY.out 4).trans (show _ = some (.string to) from rfl)
      have k5 := (cell_of_blk HcY.out 5).trans (show _ = some (.slice oa on oc) from rfl)
      go_wp2_with fail
      refine (Hsm.out _ HxY.out HlY.out).mono ?_
      rintro e W5 ⟨rfl, hX5, hk5, hb5⟩
      rw [← Hxx.out, ← Hfx.out]
      dsimp only
      have hM5 := HmY.out.keepD hk5 hb5.size HB.out.d1 HB.out.d2
      have ho5 := hk5 _ _ HoY.out (fun _ _ => cells_ne (by decide)) (fun _ _ => cells_ne (by decide)) (fun _ _ => cells_ne (by decide)) (fun ⟨_, _, e⟩ => by cases e)
      have hl5 : lo ≤ W5.heap.size := Nat.le_trans HlY.out hb5.size
      have HF : Hid (BothD W5 lo mb xb sb sm im ss is_ as_ most k base base2 rm rx hd S zs P zi L (updA A bk (mvP (outO F ks) q)) N (updF T a (some (mvP (outO F ks) q))) zt) := Lib.hid (by
        have hB := HB.out
        obtain ⟨p1, p2, p3, p4, p5, p6, p7, p8⟩ := Hp.out
        rw [p5] at hM5
        have hr : -1 ≤ mvP (outO F ks) q ∧ mvP (outO F ks) q < (ks.length : Int) := by
          unfold mvP
          by_cases hi : mvIn (outO F ks) q = true
          · rw [if_pos hi]
            unfold mvIn at hi
            rw [Bool.and_eq_true, decide_eq_true_eq, decide_eq_true_eq, outO_len] at hi
            omega
          · rw [if_neg hi]; omega
        refine ⟨hM5, hX5, ⟨hB.rel.eq, hB.rel.sv, hB.rel.pn, fun g c hg => ?_⟩, hB.d1, hB.d2, hB.rl, hB.sz, hB.hk, hB.zk, hl5, fun g m hg => ?_⟩
        · by_cases e : g = a
          · subst e
            rw [HP.out] at hg
            injection hg with hg
            subst hg
            exact ⟨n, ks, p1, p2, by rw [← HF.out]; exact p3, p4, by rw [← HF.out]; exact p5, by unfold updF updA; rw [if_pos rfl, if_pos rfl], by unfold updA; rw [if_pos rfl]; exact hr.1, by unfold updA; rw [if_pos rfl]; exact hr.2⟩
          · have hcb : c ≠ bk := fun e2 => e (hB.ms.inj g a c hg (by rw [e2]; exact HP.out))
            obtain ⟨n', ks', h1, h2, h3, h4, h5, h6, h7, h8⟩ := hB.rel.pt g c hg
            exact ⟨n', ks', h1, h2, h3, h4, h5, by unfold updF updA; rw [if_neg e, if_neg hcb]; exact h6, by unfold updA; rw [if_neg hcb]; exact h7, by unfold updA; rw [if_neg hcb]; exact h8⟩
        · unfold updF at hg
          split at hg
          · rename_i e
            rw [e]
            exact hB.th a _ p6
          · exact hB.th g m hg)
      have Hfb := Lib.hid ((HbA.out.mono Hlw.out).trans (HbY.out.trans hb5))
      have o0 := (cell_of_blk ho5 0).trans (show _ = some (.int .i64 xk) from rfl)
      have o1 := (cell_of_blk ho5 1).trans (show _ = some (.string xu) from rfl)
      have o2 := (cell_of_blk ho5 2).trans (show _ = some (.string xv) from rfl)
      have Hl5 := Lib.hid hl5
      clear hX5 hk5 hb5 hM5 ho5 hl5 k0 k1 k2 k3 k4 k5 Hsm
      go_upto_region 43 with fail
      have hb6 : Below W5.heap.size W5 (W5.alloc (.cells #[.int .i64 xk, .string xu, .string xv] 40)) := (Below.refl _ _).alloc (Nat.le_refl _) _
      have hn6 : (W5.alloc (.cells #[.int .i64 xk, .string xu, .string xv] 40)).heap[W5.heap.size]? = some (.cells #[.int .i64 xk, .string xu, .string xv] 40 (0, 0)) := blk_newF rfl _
      generalize W5.alloc (.cells #[.int .i64 xk, .string xu, .string xv] 40) = X6 at *
      have r0 := grow_cellO hb6 (block_lt_of_cell o0) o0
      have r1 := grow_cellO hb6 (block_lt_of_cell o1) o1
      have r2 := grow_cellO hb6 (block_lt_of_cell o2) o2
      have y0 := (cell_of_blk hn6 0).trans (show _ = some (.int .i64 xk) from rfl)
      have y1 := (cell_of_blk hn6 1).trans (show _ = some (.string xu) from rfl)
      have y2 := (cell_of_blk hn6 2).trans (show _ = some (.string xv) from rfl)
      have Hb6 := Lib.hid hb6
      clear hb6 hn6 o0 o1 o2
      go_wp2_with fail
      go_ret
      exact ⟨rfl, (HF.out.bel Hb6.out).more, Hfb.out.trans (Hb6.out.mono Hl5.out)⟩
set_option maxHeartbeats 12800000 in
theorem step_rel {W : World} {lo mb xb sb sm im ss is_ as_ : Nat} {most : Int} {k base base2 : Nat} {rm rx : List Wr} {hd : Nat} {S : Int → Option Int} {zs : Nat} {P : Int → Option Nat} {zi : Nat} {L : Nat → List Bo} {A : Nat → Int} {N T : Int → Option Int} {zt : Nat} (h : BothD W lo mb xb sb sm im ss is_ as_ most k base base2 rm rx hd S zs P zi L A N T zt) (hk60 : k ≤ 60) (a b : Int) (key to : ByteArray) (oa : Option Addr) (on oc : Nat) (ops : List Bo) (ho : IsOs W (.slice oa on oc) ops) (hs1 : key.size ≤ 200) (hs2 : to.size ≤ 200) (hs3 : ops.length ≤ 70) (hs4 : ∀ x ∈ ops, x.u.size ≤ 200 ∧ x.v.size ≤ 500) (ha : (Lit.int .i64 a).wf = true) (hb : (Lit.int .i64 b).wf = true) :
    Calls Try.prog 24 #[.pointer (some ⟨mb, 0, none⟩), .pointer (some ⟨xb, 0, none⟩), .pointer (some ⟨sb, 0, none⟩), .agg #[.int .i64 7, .int .i64 a, .int .i64 b, .string key, .string to, .slice oa on oc]] W (StepOut W lo mb xb sb sm im ss is_ as_ most k) := by
  obtain ⟨W1, hW1⟩ : ∃ V, V = W.alloc (.cells #[.int .i64 7, .int .i64 a, .int .i64 b, .string key, .string to, .slice oa on oc] 64) := ⟨_, rfl⟩
  have hbA : Below W.heap.size W W1 := by rw [hW1]; exact (Below.refl _ _).alloc (Nat.le_refl _) _
  have hc1 : W1.heap[W.heap.size]? = some (.cells #[.int .i64 7, .int .i64 a, .int .i64 b, .string key, .string to, .slice oa on oc] 64 (0, 0)) := by rw [hW1]; exact blk_newF rfl _
  have HB := Lib.hid (h.bel hbA)
  have Hwr := Lib.hid (writes_any HB.out.xs a ha)
  have Hlw := Lib.hid h.lw
  have HO := Lib.hid (ho.below hbA)
  have HC := Lib.hid hc1
  have HbA := Lib.hid hbA
  have HW1 := Lib.hid hW1
  have Hs4 := Lib.hid hs4
  have Ha := Lib.hid ha
  have Hbw := Lib.hid hb
  have c0 := (cell_of_blk hc1 0).trans (show _ = some (.int .i64 7) from rfl)
  have c1 := (cell_of_blk hc1 1).trans (show _ = some (.int .i64 a) from rfl)
  have c2 := (cell_of_blk hc1 2).trans (show _ = some (.int .i64 b) from rfl)
  have c3 := (cell_of_blk hc1 3).trans (show _ = some (.string key) from rfl)
  have c4 := (cell_of_blk hc1 4).trans (show _ = some (.string to) from rfl)
  have c5 := (cell_of_blk hc1 5).trans (show _ = some (.slice oa on oc) from rfl)
  have Hl45 : Hid (∀ X : World, Below W1.heap.size W1 X → (Instr.lookup 60 (.map (some ss)) (.int .i64 a) true).run Try.prog X = .ok (.tuple #[elF snT (S a), .bool (S a).isSome]) X) := Lib.hid (fun X hX => (HB.out.xs.bel hX).sn.look_ok a Ha.out)
  have Hlk2 : Hid (∀ X : World, XS X lo base2 xb sb most rx ss is_ as_ hd S zs N zi T zt → (Instr.lookup 60 (.map (some is_)) (.int .i64 a) true).run Try.prog X = .ok (.tuple #[elF snT (N a), .bool (N a).isSome]) X) := Lib.hid (fun X hX => hX.it.look_ok a Ha.out)
  have HcW1 := Lib.hid hc1
  have HbW1 := HbA
  have HW1b := HB
  obtain ⟨el1, he1⟩ : ∃ q, q = elF snT (S a) := ⟨_, rfl⟩
  obtain ⟨el2, he2⟩ : ∃ q, q = elF snT (N a) := ⟨_, rfl⟩
  rw [← he1] at Hl45
  rw [← he2] at Hlk2
  have s0 := (cell_of_blk HB.out.xs.st 0).trans (show _ = some (.map (some ss)) from rfl)
  clear h ho hs4 ha hb hW1 hbA hc1 he1 he2
  obtain ⟨nv, hnv⟩ : ∃ q, q = (wrN rx.length S a).getD 0 := ⟨_, rfl⟩
  obtain ⟨okv, hok⟩ : ∃ q, q = (wrN rx.length S a).isSome := ⟨_, rfl⟩
  rw [← hnv, ← hok] at Hwr
  clear hnv hok
  go_enter Try.func24, Try.ntmps24
  go_wp2_with fail
  rw [← HW1.out]
  refine Hwr.out.mono ?_
  rintro e w' ⟨rfl, rfl⟩
  clear Hwr
  clear HW1
  have HW1 := HW1b
  clear c2 c3 c4 c5
  go_upto_region 45 with fail
  refine wp_region_held_drew (S := fun V' => Hid (Below W1.heap.size W1 V')) (by kernel_rfl) (Lib.hid ((Below.refl _ _).drew)) (fun hS0 => ?_)
  refine wpAnyH_take (i := 0) (oi := { dst := some 356, op := Op.move (Operand.tmp 2), type := 59, pos := "law.go:220", after := #[], guard := none }) (v := ?_) rfl (by kernel_rfl) (by kernel_rfl) (by kernel_rfl) (fun _ _ _ h => h) (Or.inl ⟨by rfl, ?hy1⟩) hS0 ?_
  case hy1 => (intro V hSw; (try dsimp only at hSw); clear hSw; go_simp; try with_reducible rfl)
  try simp only [Act.put, List.setIfInBounds_toArray, List.set_cons_zero, List.set_cons_succ]
  refine wpAnyH_take (i := 1) (oi := { dst := some 357, op := Op.nilCheck (Operand.tmp 356), type := 0, pos := "law.go:220", after := #[{ on := 0, ground := Ground.data }], guard := none }) (v := ?_) rfl (by kernel_rfl) (by kernel_rfl) (by kernel_rfl) (fun _ _ _ h => h) (Or.inl ⟨by rfl, ?hy2⟩) hS0 ?_
  case hy2 => (intro V hSw; (try dsimp only at hSw); clear hSw; go_simp; try with_reducible rfl)
  try simp only [Act.put, List.setIfInBounds_toArray, List.set_cons_zero, List.set_cons_succ]
  refine wpAnyH_take (i := 2) (oi := { dst := some 358, op := Op.fieldAddr 62 (Operand.tmp 357) 0, type := 0, pos := "law.go:220", after := #[{ on := 1, ground := Ground.data }], guard := none }) (v := ?_) rfl (by kernel_rfl) (by kernel_rfl) (by kernel_rfl) (fun _ _ _ h => h) (Or.inl ⟨by rfl, ?hy3⟩) hS0 ?_
  case hy3 => (intro V hSw; (try dsimp only at hSw); clear hSw; go_simp; try with_reducible rfl)
  try simp only [Act.put, List.setIfInBounds_toArray, List.set_cons_zero, List.set_cons_succ]
  refine wpAnyH_take (i := 3) (oi := { dst := some 359, op := Op.load 60 (Operand.tmp 358), type := 60, pos := "law.go:220", after := #[{ on := 2, ground := Ground.data }], guard := none }) (v := ?_) rfl (by kernel_rfl) (by kernel_rfl) (by kernel_rfl) (fun _ _ _ h => h) (Or.inl ⟨by rfl, ?hy4⟩) hS0 ?_
  case hy4 => (intro V hSw; (try dsimp only at hSw); have q0 := grow_cellO hSw.out (block_lt_of_cell s0) s0; have q1 := grow_cellO hSw.out (block_lt_of_cell c1) c1; have ql := Hl45.out _ hSw.out; clear hSw; go_simp; try with_reducible rfl)
  try simp only [Act.put, List.setIfInBounds_toArray, List.set_cons_zero, List.set_cons_succ]
  refine wpAnyH_take (i := 4) (oi := { dst := some 360, op := Op.fieldAddr 64 (Operand.tmp 7) 1, type := 0, pos := "law.go:220", after := #[], guard := none }) (v := ?_) rfl (by kernel_rfl) (by kernel_rfl) (by kernel_rfl) (fun _ _ _ h => h) (Or.inl ⟨by rfl, ?hy5⟩) hS0 ?_
  case hy5 => (intro V hSw; (try dsimp only at hSw); clear hSw; go_simp; try with_reducible rfl)
  try simp only [Act.put, List.setIfInBounds_toArray, List.set_cons_zero, List.set_cons_succ]
  refine wpAnyH_take (i := 5) (oi := { dst := some 361, op := Op.load 3 (Operand.tmp 360), type := 3, pos := "law.go:220", after := #[{ on := 4, ground := Ground.data }], guard := none }) (v := ?_) rfl (by kernel_rfl) (by kernel_rfl) (by kernel_rfl) (fun _ _ _ h => h) (Or.inl ⟨by rfl, ?hy6⟩) hS0 ?_
  case hy6 => (intro V hSw; (try dsimp only at hSw); have q0 := grow_cellO hSw.out (block_lt_of_cell s0) s0; have q1 := grow_cellO hSw.out (block_lt_of_cell c1) c1; have ql := Hl45.out _ hSw.out; clear hSw; go_simp; try with_reducible rfl)
  try simp only [Act.put, List.setIfInBounds_toArray, List.set_cons_zero, List.set_cons_succ]
  refine wpAnyH_take (i := 6) (oi := { dst := some 362, op := Op.lookup 60 (Operand.tmp 359) (Operand.tmp 361) true, type := 88, pos := "law.go:220", after := #[{ on := 3, ground := Ground.data }, { on := 5, ground := Ground.data }], guard := none }) (v := ?_) rfl (by kernel_rfl) (by kernel_rfl) (by kernel_rfl) (fun _ _ _ h => h) (Or.inl ⟨by rfl, ?hy7⟩) hS0 ?_
  case hy7 => (intro V hSw; (try dsimp only at hSw); have q0 := grow_cellO hSw.out (block_lt_of_cell s0) s0; have q1 := grow_cellO hSw.out (block_lt_of_cell c1) c1; have ql := Hl45.out _ hSw.out; clear hSw; go_simp; try with_reducible rfl)
  try simp only [Act.put, List.setIfInBounds_toArray, List.set_cons_zero, List.set_cons_succ]
  refine wpAnyH_take (i := 7) (oi := { dst := some 355, op := Op.move (Operand.tmp 362), type := 88, pos := "law.go:220", after := #[{ on := 6, ground := Ground.data }], guard := none }) (v := ?_) rfl (by kernel_rfl) (by kernel_rfl) (by kernel_rfl) (fun _ _ _ h => h) (Or.inl ⟨by rfl, ?hy8⟩) hS0 ?_
  case hy8 => (intro V hSw; (try dsimp only at hSw); clear hSw; go_simp; try with_reducible rfl)
  try simp only [Act.put, List.setIfInBounds_toArray, List.set_cons_zero, List.set_cons_succ]
  refine wpAnyH_take (i := 8) (oi := { dst := some 363, op := Op.extract (Operand.tmp 355) 0, type := 3, pos := "law.go:220", after := #[{ on := 7, ground := Ground.data }], guard := none }) (v := ?_) rfl (by kernel_rfl) (by kernel_rfl) (by kernel_rfl) (fun _ _ _ h => h) (Or.inl ⟨by rfl, ?hy9⟩) hS0 ?_
  case hy9 => (intro V hSw; (try dsimp only at hSw); clear hSw; go_simp; try with_reducible rfl)
  try simp only [Act.put, List.setIfInBounds_toArray, List.set_cons_zero, List.set_cons_succ]
  refine wpAnyH_take (i := 9) (oi := { dst := some 364, op := Op.extract (Operand.tmp 355) 1, type := 4, pos := "law.go:220", after := #[{ on := 7, ground := Ground.data }, { on := 10, ground := Ground.gcOnly Departure.lateStores }], guard := none }) (v := ?_) rfl (by kernel_rfl) (by kernel_rfl) (by kernel_rfl) (fun _ _ _ h => h) (Or.inl ⟨by rfl, ?hy10⟩) hS0 ?_
  case hy10 => (intro V hSw; (try dsimp only at hSw); clear hSw; go_simp; try with_reducible rfl)
  try simp only [Act.put, List.setIfInBounds_toArray, List.set_cons_zero, List.set_cons_succ]
  refine wpAnyH_take (i := 10) (oi := { dst := some 29, op := Op.assign (Operand.tmp 363), type := 3, pos := "law.go:220", after := #[{ on := 8, ground := Ground.data }, { on := 0, ground := Ground.phase }, { on := 1, ground := Ground.phase }, { on := 2, ground := Ground.phase }, { on := 3, ground := Ground.phase }, { on := 4, ground := Ground.phase }, { on := 5, ground := Ground.phase }, { on := 6, ground := Ground.phase }, { on := 7, ground := Ground.phase }, { on := 8, ground := Ground.phase }, { on := 9, ground := Ground.textOnly Departure.lateStores }], guard := none }) (v := ?_) rfl (by kernel_rfl) (by kernel_rfl) (by kernel_rfl) (fun _ _ _ h => h) (Or.inl ⟨by rfl, ?hy11⟩) hS0 ?_
  case hy11 => (intro V hSw; (try dsimp only at hSw); clear hSw; go_simp; try with_reducible rfl)
  try simp only [Act.put, List.setIfInBounds_toArray, List.set_cons_zero, List.set_cons_succ]
  refine wpAnyH_ready (rs := [11]) (by kernel_rfl) (by simp) (AllReadyH.cons rfl (fun K hK => ?_) AllReadyH.nil)
  go_simp
  refine hK.out _ _ hS0 (fun _ => ?_)
  clear hK K
  try simp only [Act.put, List.setIfInBounds_toArray, List.set_cons_zero, List.set_cons_succ]
  refine wpAnyH_done (by kernel_rfl) ?_ _
  have HY2 := Lib.hid (HW1.out.bel hS0.out)
  have HcY2 := Lib.hid (blk_bels hS0.out HcW1.out)
  have HbY2 := Lib.hid (HbW1.out.trans (hS0.out.mono HbW1.out.size))
  clear hS0
  generalize W1.drew = Y2 at *
  clear s0 c1
  have s0 := (cell_of_blk HY2.out.xs.st 1).trans (show _ = some (.map (some is_)) from rfl)
  have c1 := (cell_of_blk HcY2.out 1).trans (show _ = some (.int .i64 a) from rfl)
  have Hl46 := Lib.hid (fun (X : World) (hX : Below Y2.heap.size Y2 X) => Hlk2.out X (HY2.out.xs.bel hX))
  have HcY2 := HcY2
  go_upto_region 46 with fail
  refine wp_region_held_drew (S := fun V' => Hid (Below Y2.heap.size Y2 V')) (by kernel_rfl) (Lib.hid ((Below.refl _ _).drew)) (fun hS0 => ?_)
  refine wpAnyH_take (i := 0) (oi := { dst := some 366, op := Op.move (Operand.tmp 2), type := 59, pos := "law.go:221", after := #[], guard := none }) (v := ?_) rfl (by kernel_rfl) (by kernel_rfl) (by kernel_rfl) (fun _ _ _ h => h) (Or.inl ⟨by rfl, ?hy12⟩) hS0 ?_
  case hy12 => (intro V hSw; (try dsimp only at hSw); clear hSw; go_simp; try with_reducible rfl)
  try simp only [Act.put, List.setIfInBounds_toArray, List.set_cons_zero, List.set_cons_succ]
  refine wpAnyH_take (i := 1) (oi := { dst := some 367, op := Op.nilCheck (Operand.tmp 366), type := 0, pos := "law.go:221", after := #[{ on := 0, ground := Ground.data }], guard := none }) (v := ?_) rfl (by kernel_rfl) (by kernel_rfl) (by kernel_rfl) (fun _ _ _ h => h) (Or.inl ⟨by rfl, ?hy13⟩) hS0 ?_
  case hy13 => (intro V hSw; (try dsimp only at hSw); clear hSw; go_simp; try with_reducible rfl)
  try simp only [Act.put, List.setIfInBounds_toArray, List.set_cons_zero, List.set_cons_succ]
  refine wpAnyH_take (i := 2) (oi := { dst := some 368, op := Op.fieldAddr 62 (Operand.tmp 367) 1, type := 0, pos := "law.go:221", after := #[{ on := 1, ground := Ground.data }], guard := none }) (v := ?_) rfl (by kernel_rfl) (by kernel_rfl) (by kernel_rfl) (fun _ _ _ h => h) (Or.inl ⟨by rfl, ?hy14⟩) hS0 ?_
  case hy14 => (intro V hSw; (try dsimp only at hSw); clear hSw; go_simp; try with_reducible rfl)
  try simp only [Act.put, List.setIfInBounds_toArray, List.set_cons_zero, List.set_cons_succ]
  refine wpAnyH_take (i := 3) (oi := { dst := some 369, op := Op.load 60 (Operand.tmp 368), type := 60, pos := "law.go:221", after := #[{ on := 2, ground := Ground.data }], guard := none }) (v := ?_) rfl (by kernel_rfl) (by kernel_rfl) (by kernel_rfl) (fun _ _ _ h => h) (Or.inl ⟨by rfl, ?hy15⟩) hS0 ?_
  case hy15 => (intro V hSw; (try dsimp only at hSw); have q0 := grow_cellO hSw.out (block_lt_of_cell s0) s0; have q1 := grow_cellO hSw.out (block_lt_of_cell c1) c1; have ql := Hl46.out _ hSw.out; clear hSw; go_simp; try with_reducible rfl)
  try simp only [Act.put, List.setIfInBounds_toArray, List.set_cons_zero, List.set_cons_succ]
  refine wpAnyH_take (i := 4) (oi := { dst := some 370, op := Op.fieldAddr 64 (Operand.tmp 7) 1, type := 0, pos := "law.go:221", after := #[], guard := none }) (v := ?_) rfl (by kernel_rfl) (by kernel_rfl) (by kernel_rfl) (fun _ _ _ h => h) (Or.inl ⟨by rfl, ?hy16⟩) hS0 ?_
  case hy16 => (intro V hSw; (try dsimp only at hSw); clear hSw; go_simp; try with_reducible rfl)
  try simp only [Act.put, List.setIfInBounds_toArray, List.set_cons_zero, List.set_cons_succ]
  refine wpAnyH_take (i := 5) (oi := { dst := some 371, op := Op.load 3 (Operand.tmp 370), type := 3, pos := "law.go:221", after := #[{ on := 4, ground := Ground.data }], guard := none }) (v := ?_) rfl (by kernel_rfl) (by kernel_rfl) (by kernel_rfl) (fun _ _ _ h => h) (Or.inl ⟨by rfl, ?hy17⟩) hS0 ?_
  case hy17 => (intro V hSw; (try dsimp only at hSw); have q0 := grow_cellO hSw.out (block_lt_of_cell s0) s0; have q1 := grow_cellO hSw.out (block_lt_of_cell c1) c1; have ql := Hl46.out _ hSw.out; clear hSw; go_simp; try with_reducible rfl)
  try simp only [Act.put, List.setIfInBounds_toArray, List.set_cons_zero, List.set_cons_succ]
  refine wpAnyH_take (i := 6) (oi := { dst := some 372, op := Op.lookup 60 (Operand.tmp 369) (Operand.tmp 371) true, type := 88, pos := "law.go:221", after := #[{ on := 3, ground := Ground.data }, { on := 5, ground := Ground.data }], guard := none }) (v := ?_) rfl (by kernel_rfl) (by kernel_rfl) (by kernel_rfl) (fun _ _ _ h => h) (Or.inl ⟨by rfl, ?hy18⟩) hS0 ?_
  case hy18 => (intro V hSw; (try dsimp only at hSw); have q0 := grow_cellO hSw.out (block_lt_of_cell s0) s0; have q1 := grow_cellO hSw.out (block_lt_of_cell c1) c1; have ql := Hl46.out _ hSw.out; clear hSw; go_simp; try with_reducible rfl)
  try simp only [Act.put, List.setIfInBounds_toArray, List.set_cons_zero, List.set_cons_succ]
  refine wpAnyH_take (i := 7) (oi := { dst := some 365, op := Op.move (Operand.tmp 372), type := 88, pos := "law.go:221", after := #[{ on := 6, ground := Ground.data }], guard := none }) (v := ?_) rfl (by kernel_rfl) (by kernel_rfl) (by kernel_rfl) (fun _ _ _ h => h) (Or.inl ⟨by rfl, ?hy19⟩) hS0 ?_
  case hy19 => (intro V hSw; (try dsimp only at hSw); clear hSw; go_simp; try with_reducible rfl)
  try simp only [Act.put, List.setIfInBounds_toArray, List.set_cons_zero, List.set_cons_succ]
  refine wpAnyH_take (i := 8) (oi := { dst := some 373, op := Op.extract (Operand.tmp 365) 0, type := 3, pos := "law.go:221", after := #[{ on := 7, ground := Ground.data }], guard := none }) (v := ?_) rfl (by kernel_rfl) (by kernel_rfl) (by kernel_rfl) (fun _ _ _ h => h) (Or.inl ⟨by rfl, ?hy20⟩) hS0 ?_
  case hy20 => (intro V hSw; (try dsimp only at hSw); clear hSw; go_simp; try with_reducible rfl)
  try simp only [Act.put, List.setIfInBounds_toArray, List.set_cons_zero, List.set_cons_succ]
  refine wpAnyH_take (i := 9) (oi := { dst := some 374, op := Op.extract (Operand.tmp 365) 1, type := 4, pos := "law.go:221", after := #[{ on := 7, ground := Ground.data }, { on := 10, ground := Ground.gcOnly Departure.lateStores }], guard := none }) (v := ?_) rfl (by kernel_rfl) (by kernel_rfl) (by kernel_rfl) (fun _ _ _ h => h) (Or.inl ⟨by rfl, ?hy21⟩) hS0 ?_
  case hy21 => (intro V hSw; (try dsimp only at hSw); clear hSw; go_simp; try with_reducible rfl)
  try simp only [Act.put, List.setIfInBounds_toArray, List.set_cons_zero, List.set_cons_succ]
  refine wpAnyH_take (i := 10) (oi := { dst := some 31, op := Op.assign (Operand.tmp 373), type := 3, pos := "law.go:221", after := #[{ on := 8, ground := Ground.data }, { on := 0, ground := Ground.phase }, { on := 1, ground := Ground.phase }, { on := 2, ground := Ground.phase }, { on := 3, ground := Ground.phase }, { on := 4, ground := Ground.phase }, { on := 5, ground := Ground.phase }, { on := 6, ground := Ground.phase }, { on := 7, ground := Ground.phase }, { on := 8, ground := Ground.phase }, { on := 9, ground := Ground.textOnly Departure.lateStores }], guard := none }) (v := ?_) rfl (by kernel_rfl) (by kernel_rfl) (by kernel_rfl) (fun _ _ _ h => h) (Or.inl ⟨by rfl, ?hy22⟩) hS0 ?_
  case hy22 => (intro V hSw; (try dsimp only at hSw); clear hSw; go_simp; try with_reducible rfl)
  try simp only [Act.put, List.setIfInBounds_toArray, List.set_cons_zero, List.set_cons_succ]
  refine wpAnyH_ready (rs := [11]) (by kernel_rfl) (by simp) (AllReadyH.cons rfl (fun K hK => ?_) AllReadyH.nil)
  go_simp
  refine hK.out _ _ hS0 (fun _ => ?_)
  clear hK K
  try simp only [Act.put, List.setIfInBounds_toArray, List.set_cons_zero, List.set_cons_succ]
  refine wpAnyH_done (by kernel_rfl) ?_ _
  have HY3 := Lib.hid (HY2.out.bel hS0.out)
  have HcY3 := Lib.hid (blk_bels hS0.out HcY2.out)
  have HbY3 := Lib.hid (HbY2.out.trans (hS0.out.mono HbY2.out.size))
  clear hS0
  generalize Y2.drew = Y3 at *
  clear s0 c1
  have s0 := (cell_of_blk HY3.out.xs.st 0).trans (show _ = some (.map (some ss)) from rfl)
  have c1 := (cell_of_blk HcY3.out 1).trans (show _ = some (.int .i64 a) from rfl)
  obtain ⟨W4, hd1, hS4, hg4⟩ := (show OwnsF snT Y3.drew ss S zs from HY3.out.xs.sn.of_blk rfl).dropAll a Ha.out
  have hg4' : Y3.grownBy W4 (some ss) := ⟨hg4.os, hg4.tape, hg4.output, hg4.size, hg4.block⟩
  have hX4 := HY3.out.xs.putS hg4' hS4
  have hk4 := KeepD.map (is_ := is_) (as_ := as_) hg4' HY3.out.xs.sn.map (.inl rfl)
  have hb4 : Below lo Y3 W4 := grown_below hg4' HY3.out.xs.l1 HY3.out.lw
  obtain ⟨W5, hd2, hN5, hg5⟩ := (show OwnsF snT W4.drew is_ N zi from hX4.it.of_blk rfl).dropAll a Ha.out
  have hg5' : W4.grownBy W5 (some is_) := ⟨hg5.os, hg5.tape, hg5.output, hg5.size, hg5.block⟩
  have hX5 := hX4.putN hg5' hN5
  have hk5 := hk4.trans (KeepD.map (ss := ss) (as_ := as_) hg5' hX4.it.map (.inr (.inl rfl)))
  have hl4 : lo ≤ W4.heap.size := Nat.le_trans HY3.out.lw hg4'.size
  have hb5 := hb4.trans (grown_below hg5' hX4.l2 hl4)
  have hM5 := HY3.out.ms.keepD hk5 (Nat.le_trans hg4'.size hg5'.size) HY3.out.d1 HY3.out.d2
  have hl5 : lo ≤ W5.heap.size := Nat.le_trans hl4 hg5'.size
  have hre := release_any hM5 a Ha.out hl5
  have t0 := (cell_of_blk hX4.st 1).trans (show _ = some (.map (some is_)) from rfl)
  have hc4 := KeptTy.map hg4' HY3.out.xs.sn.map _ _ _ HcY3.out
  have hc5 := KeptTy.map hg5' hX4.it.map _ _ _ hc4
  have t1 := (cell_of_blk hc4 1).trans (show _ = some (.int .i64 a) from rfl)
  have u1 := (cell_of_blk hc5 1).trans (show _ = some (.int .i64 a) from rfl)
  have Hd1 : Hid (∀ ty, (Builtin.delete_ #[60, 3] ty #[.map (some ss), .int .i64 a]).run Try.prog Y3.drew = .ok (.tuple #[]) W4) := Lib.hid hd1
  have Hd2 : Hid (∀ ty, (Builtin.delete_ #[60, 3] ty #[.map (some is_), .int .i64 a]).run Try.prog W4.drew = .ok (.tuple #[]) W5) := Lib.hid hd2
  have HX5 := Lib.hid hX5
  have Hre := Lib.hid hre
  have Hb5 := Lib.hid ((HbY3.out.mono Hlw.out).trans hb5)
  have Hl5 := Lib.hid hl5
  clear hd1 hS4 hg4 hg4' hX4 hk4 hb4 hd2 hN5 hg5 hg5' hX5 hk5 hl4 hb5 hM5 hl5 hre hc4 hc5
  go_upto_region 47 with fail
  go_still_tail 6, (by kernel_rfl)
  change wpList _ _ _ _ _ Y3.drew
  refine wpList_val rfl _ _ (run_delete_op (.tmp 378) (.tmp 380) 60 3 rfl rfl rfl Hd1.out) ?_
  clear s0 c1 Hd1
  go_upto_region 48 with fail
  go_still_tail 6, (by kernel_rfl)
  change wpList _ _ _ _ _ W4.drew
  refine wpList_val rfl _ _ (run_delete_op (.tmp 384) (.tmp 386) 60 3 rfl rfl rfl Hd2.out) ?_
  clear t0 t1 Hd2
  go_wp2_with fail
  refine Hre.out.mono ?_
  rintro e W6 ⟨rfl, hM6, hk6, hb6⟩
  have HF : Hid (BothD W6 lo mb xb sb sm im ss is_ as_ most k base base2 rm rx hd (updF S a none) (if (S a).isSome then zs - 1 else zs) (updF P a none) (if (P a).isSome then zi - 1 else zi) L A (updF N a none) T zt) := Lib.hid (by
    have hB := HY3.out
    refine ⟨hM6, ?_, ⟨hB.rel.eq, fun q m hq => ?_, fun q => ?_, fun q c hq => ?_⟩, hB.d1, hB.d2, hB.rl, hB.sz, hB.hk, ⟨?_, ?_, hB.zk.2.2⟩, Nat.le_trans Hl5.out hb6.size, hB.th⟩
    · have h9 := HX5.out.for (hk6.docD hb6.size hB.d1 hB.d2)
      rw [← hB.rel.pn a] at h9
      exact h9
    · unfold updF at hq
      split at hq
      · cases hq
      · exact hB.rel.sv q m hq
    · unfold updF
      split
      · rfl
      · exact hB.rel.pn q
    · unfold updF at hq
      split at hq
      · cases hq
      · rename_i hne
        obtain ⟨n, ks, h1, h2⟩ := hB.rel.pt q c hq
        exact ⟨n, ks, by unfold updF; rw [if_neg hne]; exact h1, h2⟩
    · have := hB.zk.1; split <;> omega
    · have := hB.zk.2.1; split <;> omega)
  have Hfb := Lib.hid (Hb5.out.trans hb6)
  rw [HY3.out.rel.pn a]
  clear hM6 hk6 hb6 u1 Hre HX5
  obtain ⟨s9, hs9⟩ : ∃ q, q = (S a).isSome := ⟨_, rfl⟩
  obtain ⟨t9, ht9⟩ : ∃ q, q = (N a).isSome := ⟨_, rfl⟩
  rw [← hs9, ← ht9]
  clear hs9 ht9
  cases s9 <;> cases t9
  all_goals
    go_wp2_with fail
    go_ret
    exact ⟨rfl, HF.out.more, Hfb.out⟩
theorem lastN70 {rows : List Wr} (h : ∀ r ∈ rows, r.2.length ≤ 70) : lastN rows ≤ 70 * rows.length := by
  induction rows with
  | nil => exact Nat.zero_le _
  | cons r rs ih =>
    have h1 := ih (fun r hr => h r (List.mem_cons_of_mem _ hr))
    have h2 := h r (List.mem_cons_self ..)
    have h3 : lastN (r :: rs) = r.2.length + lastN rs := by unfold lastN; rw [List.map_cons, List.sum_cons]
    rw [h3, List.length_cons]
    omega
theorem XS.app {W W' : World} {lo base xb sb : Nat} {most : Int} {rx rx' : List Wr} {ss is_ as_ hd : Nat} {S : Int → Option Int} {zs : Nat} {N : Int → Option Int} {zi : Nat} {T : Int → Option Int} {zt : Nat} (h : XS W lo base xb sb most rx ss is_ as_ hd S zs N zi T zt) (hx : IsXo W' base xb most rx') (hk : KeepX W W') : XS W' lo base xb sb most rx' ss is_ as_ hd S zs N zi T zt :=
  have hm : ∀ (b : Nat) (o : Obj), W.heap[b]? = some o → (∃ es ck, o = .map es ck) → W'.heap[b]? = some o := fun b o hb ⟨es, ck, e⟩ => hk b o hb (fun _ _ e2 => by rw [e] at e2; cases e2) (fun _ _ e2 => by rw [e] at e2; cases e2)
  ⟨hx, hk _ _ h.st (fun _ _ => cells_ne (by decide)) (fun _ _ => cells_ne (by decide)), h.sn.kept (hm _), h.it.kept (hm _), h.at_.kept (hm _), h.n1, h.n2, h.n3, h.l1, h.l2, h.l3, h.l4, h.l5⟩
set_option maxHeartbeats 12800000 in
theorem step_write {W : World} {lo mb xb sb sm im ss is_ as_ : Nat} {most : Int} {k base base2 : Nat} {rm rx : List Wr} {hd : Nat} {S : Int → Option Int} {zs : Nat} {P : Int → Option Nat} {zi : Nat} {L : Nat → List Bo} {A : Nat → Int} {N T : Int → Option Int} {zt : Nat} (h : BothD W lo mb xb sb sm im ss is_ as_ most k base base2 rm rx hd S zs P zi L A N T zt) (hk60 : k ≤ 60) (a b : Int) (key to : ByteArray) (oa : Option Addr) (on oc : Nat) (ops : List Bo) (ho : IsOs W (.slice oa on oc) ops) (hs1 : key.size ≤ 200) (hs2 : to.size ≤ 200) (hs3 : ops.length ≤ 70) (hs4 : ∀ x ∈ ops, x.u.size ≤ 200 ∧ x.v.size ≤ 500) (ha : (Lit.int .i64 a).wf = true) (hb : (Lit.int .i64 b).wf = true) (hov : ∀ X : World, Below lo W X → IsOs X (.slice oa on oc) ops) :
    Calls Try.prog 24 #[.pointer (some ⟨mb, 0, none⟩), .pointer (some ⟨xb, 0, none⟩), .pointer (some ⟨sb, 0, none⟩), .agg #[.int .i64 1, .int .i64 a, .int .i64 b, .string key, .string to, .slice oa on oc]] W (StepOut W lo mb xb sb sm im ss is_ as_ most k) := by
  obtain ⟨W1, hW1⟩ : ∃ V, V = W.alloc (.cells #[.int .i64 1, .int .i64 a, .int .i64 b, .string key, .string to, .slice oa on oc] 64) := ⟨_, rfl⟩
  have hbA : Below W.heap.size W W1 := by rw [hW1]; exact (Below.refl _ _).alloc (Nat.le_refl _) _
  have hc1 : W1.heap[W.heap.size]? = some (.cells #[.int .i64 1, .int .i64 a, .int .i64 b, .string key, .string to, .slice oa on oc] 64 (0, 0)) := by rw [hW1]; exact blk_newF rfl _
  have HB := Lib.hid (h.bel hbA)
  have Hwr := Lib.hid (writes_any HB.out.xs a ha)
  have Hlw := Lib.hid h.lw
  have HO := Lib.hid (ho.below hbA)
  have HC := Lib.hid hc1
  have HbA := Lib.hid hbA
  have HW1 := Lib.hid hW1
  have Hs4 := Lib.hid hs4
  have Ha := Lib.hid ha
  have Hbw := Lib.hid hb
  have c0 := (cell_of_blk hc1 0).trans (show _ = some (.int .i64 1) from rfl)
  have c1 := (cell_of_blk hc1 1).trans (show _ = some (.int .i64 a) from rfl)
  have c2 := (cell_of_blk hc1 2).trans (show _ = some (.int .i64 b) from rfl)
  have c3 := (cell_of_blk hc1 3).trans (show _ = some (.string key) from rfl)
  have c4 := (cell_of_blk hc1 4).trans (show _ = some (.string to) from rfl)
  have c5 := (cell_of_blk hc1 5).trans (show _ = some (.slice oa on oc) from rfl)
  have hrl := HB.out.rl
  have Hov := Lib.hid hov
  have hon : on = ops.length := by
    obtain ⟨a', c', e, -, -, -⟩ := id ho
    injection e
  have Hm2 := Lib.hid hon
  have hlen := HB.out.len
  have Hrx := Lib.hid hlen
  have hlb : lastN rm ≤ 70 * rm.length := lastN70 (fun r hr => (HB.out.sz r hr).1)
  obtain ⟨ls, hls⟩ : ∃ q, q = lastN rm := ⟨_, rfl⟩
  rw [← hls] at hlb
  have hlsx : lastN rx = ls := by rw [hls, lastN_ops, lastN_ops, HB.out.rel.eq]
  have Hls := Lib.hid hls
  have Hlx := Lib.hid hlsx
  have Rf := Lib.hid (refo_any (.slice oa on oc) ops W1 HO.out (by omega))
  have hon70 : on ≤ 70 := by omega
  have hs3 : on ≤ 70 := hon70
  clear hon hls hlsx hov hlen h ho hs4 ha hb hW1 hbA hc1
  obtain ⟨nv, hnv⟩ : ∃ q, q = (wrN rx.length S a).getD 0 := ⟨_, rfl⟩
  obtain ⟨okv, hok⟩ : ∃ q, q = (wrN rx.length S a).isSome := ⟨_, rfl⟩
  rw [← hnv, ← hok] at Hwr
  clear hnv hok
  go_enter Try.func24, Try.ntmps24
  go_wp2_with fail
  rw [← HW1.out]
  refine Hwr.out.mono ?_
  rintro e w' ⟨rfl, rfl⟩
  clear Hwr
  clear HW1
  go_wp2_with fail
  refine Rf.out.mono ?_
  rintro e w2 ⟨vr, rfl, hor, hb2⟩
  have HB2 := Lib.hid (HB.out.bel hb2)
  obtain ⟨xa, xc, hXB, hXO⟩ := HB2.out.xs.len
  have hrck := rcheck_any xb _ most rx vr ops w2 hXB hXO (by rw [Hlx.out]; omega) (isSl_own bo_len hor) Hs4.out
  rw [Hlx.out] at hrck
  obtain ⟨e0, he0⟩ : ∃ q, q = chkM most (ls : Int) ops := ⟨_, rfl⟩
  rw [← he0] at hrck
  have Rck := Lib.hid hrck
  have He0 := Lib.hid he0
  have Hb2 := Lib.hid hb2
  rw [OwnRo, ← Hm2.out] at hor
  obtain ⟨ara, arc, rfl⟩ := own_slice hor
  clear hor hb2 hXB hXO hrck he0 Rf c0 c1 c2 c3 c4 c5
  go_wp2_with fail
  refine Rck.out.mono ?_
  rintro e w3 ⟨rfl, hb3⟩
  have HB3 := Lib.hid (HB2.out.bel hb3)
  have Hb3 := Lib.hid (HbA.out.trans ((Hb2.out.trans (hb3.mono Hb2.out.size)).mono HbA.out.size))
  have HbL := Lib.hid (Hb3.out.mono Hlw.out)
  have HC3 := Lib.hid (blk_bels hb3 (blk_bels Hb2.out HC.out))
  clear hb3 HB2 Rck Hb2
  by_cases hz0 : e0 = 0
  · subst hz0
    go_wp2_with fail
    obtain ⟨qxa, qxc, hXB, hXO⟩ := HB3.out.xs.xo.ex
    obtain ⟨RX, hRX⟩ : ∃ q, q = rx.length := ⟨_, rfl⟩
    rw [← hRX] at hXB hXO
    have HRX := Lib.hid hRX
    have HXB := Lib.hid hXB
    have HXO := Lib.hid hXO
    have hbs := HB3.out.xs.xo.le
    have hxlt := HB3.out.xs.xo.lt
    have hxsz : xb ≤ w3.heap.size := by omega
    have hlx : lo ≤ xb := HB3.out.xs.l4
    have m2 := (cell_of_blk hXB 0).trans (show _ = some (.slice qxa RX qxc) from rfl)
    have k5 := (cell_of_blk HC3.out 5).trans (show _ = some (.slice oa on oc) from rfl)
    have HRf := Lib.hid (fun (X : World) (hX : Below w3.heap.size w3 X) => refo_any (.slice oa on oc) ops X (Hov.out X (HbL.out.trans (hX.mono HB3.out.lw))) (by rw [← Hm2.out]; omega))
    clear hRX hXB hXO
    go_upto_region 6 with fail
    refine wp_region_held_drew (S := fun V' => Hid (Below xb w3 V')) (by kernel_rfl) (Lib.hid ((Below.refl _ _).drew)) (fun hS0 => ?_)
    have hL0 : Hid (Below w3.heap.size w3 w3.drew) := Lib.hid ((Below.refl _ _).drew)
    refine wpAnyH_take (i := 0) (oi := { dst := some 53, op := Op.move (Operand.tmp 1), type := 26, pos := "law.go:173", after := #[], guard := none }) (v := ?_) rfl (by kernel_rfl) (by kernel_rfl) (by kernel_rfl) (fun _ _ _ h => h) (Or.inl ⟨by rfl, ?hy23⟩) hS0 ?_
    case hy23 => (intro V hSw; (try dsimp only at hSw); clear hSw; go_simp; try with_reducible rfl)
    try simp only [Act.put, List.setIfInBounds_toArray, List.set_cons_zero, List.set_cons_succ]
    refine wpAnyH_take (i := 1) (oi := { dst := some 54, op := Op.move (Operand.tmp 1), type := 26, pos := "law.go:173", after := #[], guard := none }) (v := ?_) rfl (by kernel_rfl) (by kernel_rfl) (by kernel_rfl) (fun _ _ _ h => h) (Or.inl ⟨by rfl, ?hy24⟩) hS0 ?_
    case hy24 => (intro V hSw; (try dsimp only at hSw); clear hSw; go_simp; try with_reducible rfl)
    try simp only [Act.put, List.setIfInBounds_toArray, List.set_cons_zero, List.set_cons_succ]
    refine wpAnyH_take (i := 2) (oi := { dst := some 55, op := Op.nilCheck (Operand.tmp 54), type := 0, pos := "law.go:173", after := #[{ on := 1, ground := Ground.data }], guard := none }) (v := ?_) rfl (by kernel_rfl) (by kernel_rfl) (by kernel_rfl) (fun _ _ _ h => h) (Or.inl ⟨by rfl, ?hy25⟩) hS0 ?_
    case hy25 => (intro V hSw; (try dsimp only at hSw); clear hSw; go_simp; try with_reducible rfl)
    try simp only [Act.put, List.setIfInBounds_toArray, List.set_cons_zero, List.set_cons_succ]
    refine wpAnyH_take (i := 3) (oi := { dst := some 56, op := Op.fieldAddr 36 (Operand.tmp 55) 0, type := 0, pos := "law.go:173", after := #[{ on := 2, ground := Ground.data }], guard := none }) (v := ?_) rfl (by kernel_rfl) (by kernel_rfl) (by kernel_rfl) (fun _ _ _ h => h) (Or.inl ⟨by rfl, ?hy26⟩) hS0 ?_
    case hy26 => (intro V hSw; (try dsimp only at hSw); clear hSw; go_simp; try with_reducible rfl)
    try simp only [Act.put, List.setIfInBounds_toArray, List.set_cons_zero, List.set_cons_succ]
    refine wpAnyH_take (i := 5) (oi := { dst := some 58, op := Op.fieldAddr 64 (Operand.tmp 7) 5, type := 0, pos := "law.go:173", after := #[], guard := none }) (v := ?_) rfl (by kernel_rfl) (by kernel_rfl) (by kernel_rfl) (fun _ _ _ h => h) (Or.inl ⟨by rfl, ?hy27⟩) hS0 ?_
    case hy27 => (intro V hSw; (try dsimp only at hSw); clear hSw; go_simp; try with_reducible rfl)
    try simp only [Act.put, List.setIfInBounds_toArray, List.set_cons_zero, List.set_cons_succ]
    refine wpAnyH_ready (rs := [4, 6]) (by kernel_rfl) (by simp) (AllReadyH.cons rfl (fun K hK => ?_) (AllReadyH.cons rfl (fun K hK => ?_) AllReadyH.nil))
    · have ml28 := m2
      go_simp
      clear ml28
      refine hK.out _ _ hS0 (fun _ => ?_)
      clear hK K
      try simp only [Act.put, List.setIfInBounds_toArray, List.set_cons_zero, List.set_cons_succ]
      refine wpAnyH_ready (rs := [6]) (by kernel_rfl) (by simp) (AllReadyH.cons rfl (fun K hK => ?_) AllReadyH.nil)
      have ml29 := k5
      go_simp
      clear ml29
      refine hK.out _ _ hS0 (fun _ => ?_)
      clear hK K
      try simp only [Act.put, List.setIfInBounds_toArray, List.set_cons_zero, List.set_cons_succ]
      refine wpAnyH_ready (rs := [7]) (by kernel_rfl) (by simp) (AllReadyH.cons rfl (fun K hK => ?_) AllReadyH.nil)
      go_simp
      refine (HRf.out _ hL0.out).mono ?_
      rintro e wv30 ⟨vc30, rfl, hown30, hv30⟩
      have hL30 := Lib.hid (hL0.out.trans (hv30.mono hL0.out.size))
      have hS30 := Lib.hid (hL30.out.mono hxsz)
      rw [OwnRo, ← Hm2.out] at hown30
      obtain ⟨ca30, cc30, rfl⟩ := own_slice hown30
      have HCo := Lib.hid (own_mono hown30 (Nat.le_trans hbs hL0.out.size))
      have cm30 := (cell_of_blk (blk_bels hL30.out HXB.out) 0).trans (show _ = some (.slice qxa RX qxc) from rfl)
      clear hv30 hown30
      refine hK.out _ _ hS30 (fun _ => ?_)
      clear hK K
      try simp only [Act.put, List.setIfInBounds_toArray, List.set_cons_zero, List.set_cons_succ]
      refine wpAnyH_ready (rs := [8]) (by kernel_rfl) (by simp) (AllReadyH.cons rfl (fun K hK => ?_) AllReadyH.nil)
      obtain ⟨pa31, pc31, wp31, hrun31, hpo31, hpb31, hpk31⟩ := push_rs (T := 68) (O := 70) Try.underlying34 wrInfo10 (by decide) wv30 base2 (.slice qxa RX qxc) rx ((.slice ca30 on cc30), ops) (HXO.out.below hL30.out) (by rw [← Hm2.out]; exact HCo.out) rfl (by rw [Hrx.out]; omega) (Nat.le_trans hbs hL30.out.size)
      rw [← HRX.out] at hrun31 hpo31
      dsimp only at hrun31
      have Hp31 := Lib.hid hpo31
      have Hpb31 := Lib.hid hpb31
      have Hpk := Lib.hid hpk31
      have hS31 := Lib.hid (hS30.out.alloc (Nat.le_trans hxsz hL30.out.size) (.cells #[(.slice ca30 on cc30)] 68))
      have hL31 := Lib.hid (hL30.out.alloc hL30.out.size (.cells #[(.slice ca30 on cc30)] 68))
      have cm31 := (cell_of_blk (blk_bels hL31.out HXB.out) 0).trans (show _ = some (.slice qxa RX qxc) from rfl)
      go_simp
      clear hpo31 hpb31 hpk31
      refine hK.out _ _ hS31 (fun _ => ?_)
      clear hK K
      try simp only [Act.put, List.setIfInBounds_toArray, List.set_cons_zero, List.set_cons_succ]
      refine wpAnyH_ready (rs := [9]) (by kernel_rfl) (by simp) (AllReadyH.cons rfl (fun K hK => ?_) AllReadyH.nil)
      have HBp := Lib.hid ((Hpb31.out.block xb hxlt).trans (blk_bels hL30.out HXB.out))
      have hS32 := Lib.hid ((hL30.out.mono hxsz).trans (Hpb31.out.mono (Nat.le_of_lt hxlt)))
      refine wp_append_run (.tmp 57) (.tmp 61) 34 rfl _ _ _ _ rfl rfl hrun31 ?_
      refine hK.out _ _ hS32 (fun _ => ?_)
      clear hK K
      try simp only [Act.put, List.setIfInBounds_toArray, List.set_cons_zero, List.set_cons_succ]
      refine wpAnyH_take (i := 10) (oi := { dst := some 63, op := Op.nilCheck (Operand.tmp 53), type := 0, pos := "law.go:173", after := #[{ on := 0, ground := Ground.data }, { on := 0, ground := Ground.phase }, { on := 1, ground := Ground.phase }, { on := 2, ground := Ground.phase }, { on := 3, ground := Ground.phase }, { on := 4, ground := Ground.phase }, { on := 5, ground := Ground.phase }, { on := 6, ground := Ground.phase }, { on := 7, ground := Ground.phase }, { on := 8, ground := Ground.phase }, { on := 9, ground := Ground.phase }], guard := none }) (v := ?_) rfl (by kernel_rfl) (by kernel_rfl) (by kernel_rfl) (fun _ _ _ h => h) (Or.inl ⟨by rfl, ?hy33⟩) hS32 ?_
      case hy33 => (intro V hSw; (try dsimp only at hSw); clear hSw; go_simp; try with_reducible rfl)
      try simp only [Act.put, List.setIfInBounds_toArray, List.set_cons_zero, List.set_cons_succ]
      refine wpAnyH_take (i := 11) (oi := { dst := some 64, op := Op.fieldAddr 36 (Operand.tmp 63) 0, type := 0, pos := "law.go:173", after := #[{ on := 10, ground := Ground.data }, { on := 0, ground := Ground.phase }, { on := 1, ground := Ground.phase }, { on := 2, ground := Ground.phase }, { on := 3, ground := Ground.phase }, { on := 4, ground := Ground.phase }, { on := 5, ground := Ground.phase }, { on := 6, ground := Ground.phase }, { on := 7, ground := Ground.phase }, { on := 8, ground := Ground.phase }, { on := 9, ground := Ground.phase }], guard := none }) (v := ?_) rfl (by kernel_rfl) (by kernel_rfl) (by kernel_rfl) (fun _ _ _ h => h) (Or.inl ⟨by rfl, ?hy34⟩) hS32 ?_
      case hy34 => (intro V hSw; (try dsimp only at hSw); clear hSw; go_simp; try with_reducible rfl)
      try simp only [Act.put, List.setIfInBounds_toArray, List.set_cons_zero, List.set_cons_succ]
      refine wpAnyH_ready (rs := [12]) (by kernel_rfl) (by simp) (AllReadyH.cons rfl (fun K hK => ?_) AllReadyH.nil)
      have pc2 := (cell_of_blk HBp.out 0).trans (show _ = some (.slice qxa RX qxc) from rfl)
      have pz2 := frozen_of_blk HBp.out 0
      have hS35 := Lib.hid (hS32.out.setCell (p := ⟨xb, 0, none⟩) (Nat.le_refl _) (.slice pa31 (RX + 1) pc31))
      go_simp
      clear pc2 pz2
      refine hK.out _ _ hS35 (fun _ => ?_)
      clear hK K
      try simp only [Act.put, List.setIfInBounds_toArray, List.set_cons_zero, List.set_cons_succ]
      refine wpAnyH_done (by kernel_rfl) ?_ _
      have HKe := Lib.hid (((KeepX.of_below hL30.out).trans (fun b o hbo _ h4 => Hpk.out b o hbo h4)).trans (KeepX.set (i := 0) (x := (.slice pa31 (RX + 1) pc31)) HBp.out))
      have hsz6 : w3.heap.size ≤ (wp31.setCell ⟨xb, 0, none⟩ (.slice pa31 (RX + 1) pc31)).heap.size := by
        have h9 := Nat.le_trans hL30.out.size Hpb31.out.size
        simpa [World.setCell] using h9
      have hX6 : IsXo (wp31.setCell ⟨xb, 0, none⟩ (.slice pa31 (RX + 1) pc31)) base2 xb most (rx ++ [(((.slice ca30 on cc30) : Value), ops)]) := ⟨⟨_, _, by
        have e2 : (rx ++ [(((.slice ca30 on cc30) : Value), ops)]).length = RX + 1 := by rw [List.length_append, ← HRX.out]; rfl
        rw [e2]
        exact ⟨(blk_set HBp.out).trans rfl, Hp31.out.far hxlt⟩⟩, hxlt, Nat.le_trans hbs hsz6⟩
      have HX6 := Lib.hid (HB3.out.xs.app hX6 HKe.out)
      have HM6 := Lib.hid (HB3.out.ms.keepD (KeepD.of_keepX HKe.out) hsz6 HB3.out.d1 HB3.out.d2)
      have hl6 : Below lo W (wp31.setCell ⟨xb, 0, none⟩ (.slice pa31 (RX + 1) pc31)) := HbL.out.trans (hS35.out.mono hlx)
      have Hc6 := Lib.hid (HKe.out _ _ HC3.out (fun _ _ => cells_ne (by decide)) (fun _ _ => cells_ne (by decide)))
      have Hl6 := Lib.hid hl6
      generalize wp31.setCell ⟨xb, 0, none⟩ (.slice pa31 (RX + 1) pc31) = w6 at *
      have c5 := (cell_of_blk Hc6.out 5).trans (show _ = some (.slice oa on oc) from rfl)
      have hwr := mwrite_any w6 base mb most rm sm im hd (.slice oa on oc) ops HM6.out.mo (Hov.out w6 Hl6.out) Hs4.out (by rw [← Hm2.out]; omega) (by omega) (by rw [← Hls.out]; omega)
      rw [← Hls.out, ← He0.out] at hwr
      have Mwr := Lib.hid hwr
      clear hwr hl6 hX6 Hc6
      go_wp2_with fail
      refine Mwr.out.mono ?_
      rintro e w7 hq
      obtain ⟨rfl, hz, -, hb7, hk7⟩ := hq.out
      obtain ⟨val, hMo⟩ := hz (by simp)
      have HF : Hid (BothD w7 lo mb xb sb sm im ss is_ as_ most (k + 1) base base2 (rm ++ [(val, ops)]) (rx ++ [(((.slice ca30 on cc30) : Value), ops)]) hd S zs P zi L A N T zt) := Lib.hid (by
        have hB := HB.out
        refine ⟨HM6.out.write hMo hk7, HX6.out.for ((KeepN.of_keepM (sm := sm) (im := im) hk7).docD hb7.size hB.d1 hB.d2), ⟨?_, fun q v hq => ?_, hB.rel.pn, fun q c hq => ?_⟩, hB.d1, hB.d2, ?_, fun r hr => ?_, Nat.le_succ_of_le hB.hk, ⟨Nat.le_succ_of_le hB.zk.1, Nat.le_succ_of_le hB.zk.2.1, Nat.le_succ_of_le hB.zk.2.2⟩, Nat.le_trans (Nat.le_trans HB3.out.lw hsz6) hb7.size, hB.th⟩
        · rw [opsOf_snoc, opsOf_snoc, hB.rel.eq]
        · obtain ⟨n, h1, h2⟩ := hB.rel.sv q v hq
          exact ⟨n, h1, by rw [List.length_append]; omega⟩
        · obtain ⟨n, ks, h1, h2, h3⟩ := hB.rel.pt q c hq
          have e2 : (opsOf (rm ++ [(val, ops)])).take n = (opsOf rm).take n := by rw [opsOf_snoc, List.take_append_of_le_length (by rw [opsOf_len]; exact h2)]
          exact ⟨n, ks, h1, by rw [List.length_append]; omega, by rw [e2]; exact h3⟩
        · have := hB.rl
          rw [List.length_append]
          exact Nat.succ_le_succ this
        · rcases List.mem_append.1 hr with hr | hr
          · exact hB.sz r hr
          · obtain rfl := List.mem_singleton.1 hr
            exact ⟨by rw [← Hm2.out]; exact hs3, Hs4.out⟩)
      have Hfb := Lib.hid (Hl6.out.trans (hb7.mono HB.out.ms.lom))
      have hee : ((0 : Int) == 0) = true := rfl
      clear hq hz hb7 hk7 hMo Mwr c5
      go_wp2_with fail
      go_ret
      exact ⟨rfl, ⟨_, _, _, _, _, _, _, _, _, _, _, _, _, _, HF.out⟩, Hfb.out⟩
    · have ml36 := k5
      go_simp
      clear ml36
      refine hK.out _ _ hS0 (fun _ => ?_)
      clear hK K
      try simp only [Act.put, List.setIfInBounds_toArray, List.set_cons_zero, List.set_cons_succ]
      refine wpAnyH_ready (rs := [4, 7]) (by kernel_rfl) (by simp) (AllReadyH.cons rfl (fun K hK => ?_) (AllReadyH.cons rfl (fun K hK => ?_) AllReadyH.nil))
      · have ml37 := m2
        go_simp
        clear ml37
        refine hK.out _ _ hS0 (fun _ => ?_)
        clear hK K
        try simp only [Act.put, List.setIfInBounds_toArray, List.set_cons_zero, List.set_cons_succ]
        refine wpAnyH_ready (rs := [7]) (by kernel_rfl) (by simp) (AllReadyH.cons rfl (fun K hK => ?_) AllReadyH.nil)
        go_simp
        refine (HRf.out _ hL0.out).mono ?_
        rintro e wv38 ⟨vc38, rfl, hown38, hv38⟩
        have hL38 := Lib.hid (hL0.out.trans (hv38.mono hL0.out.size))
        have hS38 := Lib.hid (hL38.out.mono hxsz)
        rw [OwnRo, ← Hm2.out] at hown38
        obtain ⟨ca38, cc38, rfl⟩ := own_slice hown38
        have HCo := Lib.hid (own_mono hown38 (Nat.le_trans hbs hL0.out.size))
        have cm38 := (cell_of_blk (blk_bels hL38.out HXB.out) 0).trans (show _ = some (.slice qxa RX qxc) from rfl)
        clear hv38 hown38
        refine hK.out _ _ hS38 (fun _ => ?_)
        clear hK K
        try simp only [Act.put, List.setIfInBounds_toArray, List.set_cons_zero, List.set_cons_succ]
        refine wpAnyH_ready (rs := [8]) (by kernel_rfl) (by simp) (AllReadyH.cons rfl (fun K hK => ?_) AllReadyH.nil)
        obtain ⟨pa39, pc39, wp39, hrun39, hpo39, hpb39, hpk39⟩ := push_rs (T := 68) (O := 70) Try.underlying34 wrInfo10 (by decide) wv38 base2 (.slice qxa RX qxc) rx ((.slice ca38 on cc38), ops) (HXO.out.below hL38.out) (by rw [← Hm2.out]; exact HCo.out) rfl (by rw [Hrx.out]; omega) (Nat.le_trans hbs hL38.out.size)
        rw [← HRX.out] at hrun39 hpo39
        dsimp only at hrun39
        have Hp39 := Lib.hid hpo39
        have Hpb39 := Lib.hid hpb39
        have Hpk := Lib.hid hpk39
        have hS39 := Lib.hid (hS38.out.alloc (Nat.le_trans hxsz hL38.out.size) (.cells #[(.slice ca38 on cc38)] 68))
        have hL39 := Lib.hid (hL38.out.alloc hL38.out.size (.cells #[(.slice ca38 on cc38)] 68))
        have cm39 := (cell_of_blk (blk_bels hL39.out HXB.out) 0).trans (show _ = some (.slice qxa RX qxc) from rfl)
        go_simp
        clear hpo39 hpb39 hpk39
        refine hK.out _ _ hS39 (fun _ => ?_)
        clear hK K
        try simp only [Act.put, List.setIfInBounds_toArray, List.set_cons_zero, List.set_cons_succ]
        refine wpAnyH_ready (rs := [9]) (by kernel_rfl) (by simp) (AllReadyH.cons rfl (fun K hK => ?_) AllReadyH.nil)
        have HBp := Lib.hid ((Hpb39.out.block xb hxlt).trans (blk_bels hL38.out HXB.out))
        have hS40 := Lib.hid ((hL38.out.mono hxsz).trans (Hpb39.out.mono (Nat.le_of_lt hxlt)))
        refine wp_append_run (.tmp 57) (.tmp 61) 34 rfl _ _ _ _ rfl rfl hrun39 ?_
        refine hK.out _ _ hS40 (fun _ => ?_)
        clear hK K
        try simp only [Act.put, List.setIfInBounds_toArray, List.set_cons_zero, List.set_cons_succ]
        refine wpAnyH_take (i := 10) (oi := { dst := some 63, op := Op.nilCheck (Operand.tmp 53), type := 0, pos := "law.go:173", after := #[{ on := 0, ground := Ground.data }, { on := 0, ground := Ground.phase }, { on := 1, ground := Ground.phase }, { on := 2, ground := Ground.phase }, { on := 3, ground := Ground.phase }, { on := 4, ground := Ground.phase }, { on := 5, ground := Ground.phase }, { on := 6, ground := Ground.phase }, { on := 7, ground := Ground.phase }, { on := 8, ground := Ground.phase }, { on := 9, ground := Ground.phase }], guard := none }) (v := ?_) rfl (by kernel_rfl) (by kernel_rfl) (by kernel_rfl) (fun _ _ _ h => h) (Or.inl ⟨by rfl, ?hy41⟩) hS40 ?_
        case hy41 => (intro V hSw; (try dsimp only at hSw); clear hSw; go_simp; try with_reducible rfl)
        try simp only [Act.put, List.setIfInBounds_toArray, List.set_cons_zero, List.set_cons_succ]
        refine wpAnyH_take (i := 11) (oi := { dst := some 64, op := Op.fieldAddr 36 (Operand.tmp 63) 0, type := 0, pos := "law.go:173", after := #[{ on := 10, ground := Ground.data }, { on := 0, ground := Ground.phase }, { on := 1, ground := Ground.phase }, { on := 2, ground := Ground.phase }, { on := 3, ground := Ground.phase }, { on := 4, ground := Ground.phase }, { on := 5, ground := Ground.phase }, { on := 6, ground := Ground.phase }, { on := 7, ground := Ground.phase }, { on := 8, ground := Ground.phase }, { on := 9, ground := Ground.phase }], guard := none }) (v := ?_) rfl (by kernel_rfl) (by kernel_rfl) (by kernel_rfl) (fun _ _ _ h => h) (Or.inl ⟨by rfl, ?hy42⟩) hS40 ?_
        case hy42 => (intro V hSw; (try dsimp only at hSw); clear hSw; go_simp; try with_reducible rfl)
        try simp only [Act.put, List.setIfInBounds_toArray, List.set_cons_zero, List.set_cons_succ]
        refine wpAnyH_ready (rs := [12]) (by kernel_rfl) (by simp) (AllReadyH.cons rfl (fun K hK => ?_) AllReadyH.nil)
        have pc2 := (cell_of_blk HBp.out 0).trans (show _ = some (.slice qxa RX qxc) from rfl)
        have pz2 := frozen_of_blk HBp.out 0
        have hS43 := Lib.hid (hS40.out.setCell (p := ⟨xb, 0, none⟩) (Nat.le_refl _) (.slice pa39 (RX + 1) pc39))
        go_simp
        clear pc2 pz2
        refine hK.out _ _ hS43 (fun _ => ?_)
        clear hK K
        try simp only [Act.put, List.setIfInBounds_toArray, List.set_cons_zero, List.set_cons_succ]
        refine wpAnyH_done (by kernel_rfl) ?_ _
        have HKe := Lib.hid (((KeepX.of_below hL38.out).trans (fun b o hbo _ h4 => Hpk.out b o hbo h4)).trans (KeepX.set (i := 0) (x := (.slice pa39 (RX + 1) pc39)) HBp.out))
        have hsz6 : w3.heap.size ≤ (wp39.setCell ⟨xb, 0, none⟩ (.slice pa39 (RX + 1) pc39)).heap.size := by
          have h9 := Nat.le_trans hL38.out.size Hpb39.out.size
          simpa [World.setCell] using h9
        have hX6 : IsXo (wp39.setCell ⟨xb, 0, none⟩ (.slice pa39 (RX + 1) pc39)) base2 xb most (rx ++ [(((.slice ca38 on cc38) : Value), ops)]) := ⟨⟨_, _, by
          have e2 : (rx ++ [(((.slice ca38 on cc38) : Value), ops)]).length = RX + 1 := by rw [List.length_append, ← HRX.out]; rfl
          rw [e2]
          exact ⟨(blk_set HBp.out).trans rfl, Hp39.out.far hxlt⟩⟩, hxlt, Nat.le_trans hbs hsz6⟩
        have HX6 := Lib.hid (HB3.out.xs.app hX6 HKe.out)
        have HM6 := Lib.hid (HB3.out.ms.keepD (KeepD.of_keepX HKe.out) hsz6 HB3.out.d1 HB3.out.d2)
        have hl6 : Below lo W (wp39.setCell ⟨xb, 0, none⟩ (.slice pa39 (RX + 1) pc39)) := HbL.out.trans (hS43.out.mono hlx)
        have Hc6 := Lib.hid (HKe.out _ _ HC3.out (fun _ _ => cells_ne (by decide)) (fun _ _ => cells_ne (by decide)))
        have Hl6 := Lib.hid hl6
        generalize wp39.setCell ⟨xb, 0, none⟩ (.slice pa39 (RX + 1) pc39) = w6 at *
        have c5 := (cell_of_blk Hc6.out 5).trans (show _ = some (.slice oa on oc) from rfl)
        have hwr := mwrite_any w6 base mb most rm sm im hd (.slice oa on oc) ops HM6.out.mo (Hov.out w6 Hl6.out) Hs4.out (by rw [← Hm2.out]; omega) (by omega) (by rw [← Hls.out]; omega)
        rw [← Hls.out, ← He0.out] at hwr
        have Mwr := Lib.hid hwr
        clear hwr hl6 hX6 Hc6
        go_wp2_with fail
        refine Mwr.out.mono ?_
        rintro e w7 hq
        obtain ⟨rfl, hz, -, hb7, hk7⟩ := hq.out
        obtain ⟨val, hMo⟩ := hz (by simp)
        have HF : Hid (BothD w7 lo mb xb sb sm im ss is_ as_ most (k + 1) base base2 (rm ++ [(val, ops)]) (rx ++ [(((.slice ca38 on cc38) : Value), ops)]) hd S zs P zi L A N T zt) := Lib.hid (by
          have hB := HB.out
          refine ⟨HM6.out.write hMo hk7, HX6.out.for ((KeepN.of_keepM (sm := sm) (im := im) hk7).docD hb7.size hB.d1 hB.d2), ⟨?_, fun q v hq => ?_, hB.rel.pn, fun q c hq => ?_⟩, hB.d1, hB.d2, ?_, fun r hr => ?_, Nat.le_succ_of_le hB.hk, ⟨Nat.le_succ_of_le hB.zk.1, Nat.le_succ_of_le hB.zk.2.1, Nat.le_succ_of_le hB.zk.2.2⟩, Nat.le_trans (Nat.le_trans HB3.out.lw hsz6) hb7.size, hB.th⟩
          · rw [opsOf_snoc, opsOf_snoc, hB.rel.eq]
          · obtain ⟨n, h1, h2⟩ := hB.rel.sv q v hq
            exact ⟨n, h1, by rw [List.length_append]; omega⟩
          · obtain ⟨n, ks, h1, h2, h3⟩ := hB.rel.pt q c hq
            have e2 : (opsOf (rm ++ [(val, ops)])).take n = (opsOf rm).take n := by rw [opsOf_snoc, List.take_append_of_le_length (by rw [opsOf_len]; exact h2)]
            exact ⟨n, ks, h1, by rw [List.length_append]; omega, by rw [e2]; exact h3⟩
          · have := hB.rl
            rw [List.length_append]
            exact Nat.succ_le_succ this
          · rcases List.mem_append.1 hr with hr | hr
            · exact hB.sz r hr
            · obtain rfl := List.mem_singleton.1 hr
              exact ⟨by rw [← Hm2.out]; exact hs3, Hs4.out⟩)
        have Hfb := Lib.hid (Hl6.out.trans (hb7.mono HB.out.ms.lom))
        have hee : ((0 : Int) == 0) = true := rfl
        clear hq hz hb7 hk7 hMo Mwr c5
        go_wp2_with fail
        go_ret
        exact ⟨rfl, ⟨_, _, _, _, _, _, _, _, _, _, _, _, _, _, HF.out⟩, Hfb.out⟩
      · go_simp
        refine (HRf.out _ hL0.out).mono ?_
        rintro e wv44 ⟨vc44, rfl, hown44, hv44⟩
        have hL44 := Lib.hid (hL0.out.trans (hv44.mono hL0.out.size))
        have hS44 := Lib.hid (hL44.out.mono hxsz)
        rw [OwnRo, ← Hm2.out] at hown44
        obtain ⟨ca44, cc44, rfl⟩ := own_slice hown44
        have HCo := Lib.hid (own_mono hown44 (Nat.le_trans hbs hL0.out.size))
        have cm44 := (cell_of_blk (blk_bels hL44.out HXB.out) 0).trans (show _ = some (.slice qxa RX qxc) from rfl)
        clear hv44 hown44
        refine hK.out _ _ hS44 (fun _ => ?_)
        clear hK K
        try simp only [Act.put, List.setIfInBounds_toArray, List.set_cons_zero, List.set_cons_succ]
        refine wpAnyH_ready (rs := [4, 8]) (by kernel_rfl) (by simp) (AllReadyH.cons rfl (fun K hK => ?_) (AllReadyH.cons rfl (fun K hK => ?_) AllReadyH.nil))
        · have ml45 := cm44
          go_simp
          clear ml45
          refine hK.out _ _ hS44 (fun _ => ?_)
          clear hK K
          try simp only [Act.put, List.setIfInBounds_toArray, List.set_cons_zero, List.set_cons_succ]
          refine wpAnyH_ready (rs := [8]) (by kernel_rfl) (by simp) (AllReadyH.cons rfl (fun K hK => ?_) AllReadyH.nil)
          obtain ⟨pa46, pc46, wp46, hrun46, hpo46, hpb46, hpk46⟩ := push_rs (T := 68) (O := 70) Try.underlying34 wrInfo10 (by decide) wv44 base2 (.slice qxa RX qxc) rx ((.slice ca44 on cc44), ops) (HXO.out.below hL44.out) (by rw [← Hm2.out]; exact HCo.out) rfl (by rw [Hrx.out]; omega) (Nat.le_trans hbs hL44.out.size)
          rw [← HRX.out] at hrun46 hpo46
          dsimp only at hrun46
          have Hp46 := Lib.hid hpo46
          have Hpb46 := Lib.hid hpb46
          have Hpk := Lib.hid hpk46
          have hS46 := Lib.hid (hS44.out.alloc (Nat.le_trans hxsz hL44.out.size) (.cells #[(.slice ca44 on cc44)] 68))
          have hL46 := Lib.hid (hL44.out.alloc hL44.out.size (.cells #[(.slice ca44 on cc44)] 68))
          have cm46 := (cell_of_blk (blk_bels hL46.out HXB.out) 0).trans (show _ = some (.slice qxa RX qxc) from rfl)
          go_simp
          clear hpo46 hpb46 hpk46
          refine hK.out _ _ hS46 (fun _ => ?_)
          clear hK K
          try simp only [Act.put, List.setIfInBounds_toArray, List.set_cons_zero, List.set_cons_succ]
          refine wpAnyH_ready (rs := [9]) (by kernel_rfl) (by simp) (AllReadyH.cons rfl (fun K hK => ?_) AllReadyH.nil)
          have HBp := Lib.hid ((Hpb46.out.block xb hxlt).trans (blk_bels hL44.out HXB.out))
          have hS47 := Lib.hid ((hL44.out.mono hxsz).trans (Hpb46.out.mono (Nat.le_of_lt hxlt)))
          refine wp_append_run (.tmp 57) (.tmp 61) 34 rfl _ _ _ _ rfl rfl hrun46 ?_
          refine hK.out _ _ hS47 (fun _ => ?_)
          clear hK K
          try simp only [Act.put, List.setIfInBounds_toArray, List.set_cons_zero, List.set_cons_succ]
          refine wpAnyH_take (i := 10) (oi := { dst := some 63, op := Op.nilCheck (Operand.tmp 53), type := 0, pos := "law.go:173", after := #[{ on := 0, ground := Ground.data }, { on := 0, ground := Ground.phase }, { on := 1, ground := Ground.phase }, { on := 2, ground := Ground.phase }, { on := 3, ground := Ground.phase }, { on := 4, ground := Ground.phase }, { on := 5, ground := Ground.phase }, { on := 6, ground := Ground.phase }, { on := 7, ground := Ground.phase }, { on := 8, ground := Ground.phase }, { on := 9, ground := Ground.phase }], guard := none }) (v := ?_) rfl (by kernel_rfl) (by kernel_rfl) (by kernel_rfl) (fun _ _ _ h => h) (Or.inl ⟨by rfl, ?hy48⟩) hS47 ?_
          case hy48 => (intro V hSw; (try dsimp only at hSw); clear hSw; go_simp; try with_reducible rfl)
          try simp only [Act.put, List.setIfInBounds_toArray, List.set_cons_zero, List.set_cons_succ]
          refine wpAnyH_take (i := 11) (oi := { dst := some 64, op := Op.fieldAddr 36 (Operand.tmp 63) 0, type := 0, pos := "law.go:173", after := #[{ on := 10, ground := Ground.data }, { on := 0, ground := Ground.phase }, { on := 1, ground := Ground.phase }, { on := 2, ground := Ground.phase }, { on := 3, ground := Ground.phase }, { on := 4, ground := Ground.phase }, { on := 5, ground := Ground.phase }, { on := 6, ground := Ground.phase }, { on := 7, ground := Ground.phase }, { on := 8, ground := Ground.phase }, { on := 9, ground := Ground.phase }], guard := none }) (v := ?_) rfl (by kernel_rfl) (by kernel_rfl) (by kernel_rfl) (fun _ _ _ h => h) (Or.inl ⟨by rfl, ?hy49⟩) hS47 ?_
          case hy49 => (intro V hSw; (try dsimp only at hSw); clear hSw; go_simp; try with_reducible rfl)
          try simp only [Act.put, List.setIfInBounds_toArray, List.set_cons_zero, List.set_cons_succ]
          refine wpAnyH_ready (rs := [12]) (by kernel_rfl) (by simp) (AllReadyH.cons rfl (fun K hK => ?_) AllReadyH.nil)
          have pc2 := (cell_of_blk HBp.out 0).trans (show _ = some (.slice qxa RX qxc) from rfl)
          have pz2 := frozen_of_blk HBp.out 0
          have hS50 := Lib.hid (hS47.out.setCell (p := ⟨xb, 0, none⟩) (Nat.le_refl _) (.slice pa46 (RX + 1) pc46))
          go_simp
          clear pc2 pz2
          refine hK.out _ _ hS50 (fun _ => ?_)
          clear hK K
          try simp only [Act.put, List.setIfInBounds_toArray, List.set_cons_zero, List.set_cons_succ]
          refine wpAnyH_done (by kernel_rfl) ?_ _
          have HKe := Lib.hid (((KeepX.of_below hL44.out).trans (fun b o hbo _ h4 => Hpk.out b o hbo h4)).trans (KeepX.set (i := 0) (x := (.slice pa46 (RX + 1) pc46)) HBp.out))
          have hsz6 : w3.heap.size ≤ (wp46.setCell ⟨xb, 0, none⟩ (.slice pa46 (RX + 1) pc46)).heap.size := by
            have h9 := Nat.le_trans hL44.out.size Hpb46.out.size
            simpa [World.setCell] using h9
          have hX6 : IsXo (wp46.setCell ⟨xb, 0, none⟩ (.slice pa46 (RX + 1) pc46)) base2 xb most (rx ++ [(((.slice ca44 on cc44) : Value), ops)]) := ⟨⟨_, _, by
            have e2 : (rx ++ [(((.slice ca44 on cc44) : Value), ops)]).length = RX + 1 := by rw [List.length_append, ← HRX.out]; rfl
            rw [e2]
            exact ⟨(blk_set HBp.out).trans rfl, Hp46.out.far hxlt⟩⟩, hxlt, Nat.le_trans hbs hsz6⟩
          have HX6 := Lib.hid (HB3.out.xs.app hX6 HKe.out)
          have HM6 := Lib.hid (HB3.out.ms.keepD (KeepD.of_keepX HKe.out) hsz6 HB3.out.d1 HB3.out.d2)
          have hl6 : Below lo W (wp46.setCell ⟨xb, 0, none⟩ (.slice pa46 (RX + 1) pc46)) := HbL.out.trans (hS50.out.mono hlx)
          have Hc6 := Lib.hid (HKe.out _ _ HC3.out (fun _ _ => cells_ne (by decide)) (fun _ _ => cells_ne (by decide)))
          have Hl6 := Lib.hid hl6
          generalize wp46.setCell ⟨xb, 0, none⟩ (.slice pa46 (RX + 1) pc46) = w6 at *
          have c5 := (cell_of_blk Hc6.out 5).trans (show _ = some (.slice oa on oc) from rfl)
          have hwr := mwrite_any w6 base mb most rm sm im hd (.slice oa on oc) ops HM6.out.mo (Hov.out w6 Hl6.out) Hs4.out (by rw [← Hm2.out]; omega) (by omega) (by rw [← Hls.out]; omega)
          rw [← Hls.out, ← He0.out] at hwr
          have Mwr := Lib.hid hwr
          clear hwr hl6 hX6 Hc6
          go_wp2_with fail
          refine Mwr.out.mono ?_
          rintro e w7 hq
          obtain ⟨rfl, hz, -, hb7, hk7⟩ := hq.out
          obtain ⟨val, hMo⟩ := hz (by simp)
          have HF : Hid (BothD w7 lo mb xb sb sm im ss is_ as_ most (k + 1) base base2 (rm ++ [(val, ops)]) (rx ++ [(((.slice ca44 on cc44) : Value), ops)]) hd S zs P zi L A N T zt) := Lib.hid (by
            have hB := HB.out
            refine ⟨HM6.out.write hMo hk7, HX6.out.for ((KeepN.of_keepM (sm := sm) (im := im) hk7).docD hb7.size hB.d1 hB.d2), ⟨?_, fun q v hq => ?_, hB.rel.pn, fun q c hq => ?_⟩, hB.d1, hB.d2, ?_, fun r hr => ?_, Nat.le_succ_of_le hB.hk, ⟨Nat.le_succ_of_le hB.zk.1, Nat.le_succ_of_le hB.zk.2.1, Nat.le_succ_of_le hB.zk.2.2⟩, Nat.le_trans (Nat.le_trans HB3.out.lw hsz6) hb7.size, hB.th⟩
            · rw [opsOf_snoc, opsOf_snoc, hB.rel.eq]
            · obtain ⟨n, h1, h2⟩ := hB.rel.sv q v hq
              exact ⟨n, h1, by rw [List.length_append]; omega⟩
            · obtain ⟨n, ks, h1, h2, h3⟩ := hB.rel.pt q c hq
              have e2 : (opsOf (rm ++ [(val, ops)])).take n = (opsOf rm).take n := by rw [opsOf_snoc, List.take_append_of_le_length (by rw [opsOf_len]; exact h2)]
              exact ⟨n, ks, h1, by rw [List.length_append]; omega, by rw [e2]; exact h3⟩
            · have := hB.rl
              rw [List.length_append]
              exact Nat.succ_le_succ this
            · rcases List.mem_append.1 hr with hr | hr
              · exact hB.sz r hr
              · obtain rfl := List.mem_singleton.1 hr
                exact ⟨by rw [← Hm2.out]; exact hs3, Hs4.out⟩)
          have Hfb := Lib.hid (Hl6.out.trans (hb7.mono HB.out.ms.lom))
          have hee : ((0 : Int) == 0) = true := rfl
          clear hq hz hb7 hk7 hMo Mwr c5
          go_wp2_with fail
          go_ret
          exact ⟨rfl, ⟨_, _, _, _, _, _, _, _, _, _, _, _, _, _, HF.out⟩, Hfb.out⟩
        · obtain ⟨pa51, pc51, wp51, hrun51, hpo51, hpb51, hpk51⟩ := push_rs (T := 68) (O := 70) Try.underlying34 wrInfo10 (by decide) wv44 base2 (.slice qxa RX qxc) rx ((.slice ca44 on cc44), ops) (HXO.out.below hL44.out) (by rw [← Hm2.out]; exact HCo.out) rfl (by rw [Hrx.out]; omega) (Nat.le_trans hbs hL44.out.size)
          rw [← HRX.out] at hrun51 hpo51
          dsimp only at hrun51
          have Hp51 := Lib.hid hpo51
          have Hpb51 := Lib.hid hpb51
          have Hpk := Lib.hid hpk51
          have hS51 := Lib.hid (hS44.out.alloc (Nat.le_trans hxsz hL44.out.size) (.cells #[(.slice ca44 on cc44)] 68))
          have hL51 := Lib.hid (hL44.out.alloc hL44.out.size (.cells #[(.slice ca44 on cc44)] 68))
          have cm51 := (cell_of_blk (blk_bels hL51.out HXB.out) 0).trans (show _ = some (.slice qxa RX qxc) from rfl)
          go_simp
          clear hpo51 hpb51 hpk51
          refine hK.out _ _ hS51 (fun _ => ?_)
          clear hK K
          try simp only [Act.put, List.setIfInBounds_toArray, List.set_cons_zero, List.set_cons_succ]
          refine wpAnyH_ready (rs := [4]) (by kernel_rfl) (by simp) (AllReadyH.cons rfl (fun K hK => ?_) AllReadyH.nil)
          have ml52 := cm51
          go_simp
          clear ml52
          refine hK.out _ _ hS51 (fun _ => ?_)
          clear hK K
          try simp only [Act.put, List.setIfInBounds_toArray, List.set_cons_zero, List.set_cons_succ]
          refine wpAnyH_ready (rs := [9]) (by kernel_rfl) (by simp) (AllReadyH.cons rfl (fun K hK => ?_) AllReadyH.nil)
          have HBp := Lib.hid ((Hpb51.out.block xb hxlt).trans (blk_bels hL44.out HXB.out))
          have hS53 := Lib.hid ((hL44.out.mono hxsz).trans (Hpb51.out.mono (Nat.le_of_lt hxlt)))
          refine wp_append_run (.tmp 57) (.tmp 61) 34 rfl _ _ _ _ rfl rfl hrun51 ?_
          refine hK.out _ _ hS53 (fun _ => ?_)
          clear hK K
          try simp only [Act.put, List.setIfInBounds_toArray, List.set_cons_zero, List.set_cons_succ]
          refine wpAnyH_take (i := 10) (oi := { dst := some 63, op := Op.nilCheck (Operand.tmp 53), type := 0, pos := "law.go:173", after := #[{ on := 0, ground := Ground.data }, { on := 0, ground := Ground.phase }, { on := 1, ground := Ground.phase }, { on := 2, ground := Ground.phase }, { on := 3, ground := Ground.phase }, { on := 4, ground := Ground.phase }, { on := 5, ground := Ground.phase }, { on := 6, ground := Ground.phase }, { on := 7, ground := Ground.phase }, { on := 8, ground := Ground.phase }, { on := 9, ground := Ground.phase }], guard := none }) (v := ?_) rfl (by kernel_rfl) (by kernel_rfl) (by kernel_rfl) (fun _ _ _ h => h) (Or.inl ⟨by rfl, ?hy54⟩) hS53 ?_
          case hy54 => (intro V hSw; (try dsimp only at hSw); clear hSw; go_simp; try with_reducible rfl)
          try simp only [Act.put, List.setIfInBounds_toArray, List.set_cons_zero, List.set_cons_succ]
          refine wpAnyH_take (i := 11) (oi := { dst := some 64, op := Op.fieldAddr 36 (Operand.tmp 63) 0, type := 0, pos := "law.go:173", after := #[{ on := 10, ground := Ground.data }, { on := 0, ground := Ground.phase }, { on := 1, ground := Ground.phase }, { on := 2, ground := Ground.phase }, { on := 3, ground := Ground.phase }, { on := 4, ground := Ground.phase }, { on := 5, ground := Ground.phase }, { on := 6, ground := Ground.phase }, { on := 7, ground := Ground.phase }, { on := 8, ground := Ground.phase }, { on := 9, ground := Ground.phase }], guard := none }) (v := ?_) rfl (by kernel_rfl) (by kernel_rfl) (by kernel_rfl) (fun _ _ _ h => h) (Or.inl ⟨by rfl, ?hy55⟩) hS53 ?_
          case hy55 => (intro V hSw; (try dsimp only at hSw); clear hSw; go_simp; try with_reducible rfl)
          try simp only [Act.put, List.setIfInBounds_toArray, List.set_cons_zero, List.set_cons_succ]
          refine wpAnyH_ready (rs := [12]) (by kernel_rfl) (by simp) (AllReadyH.cons rfl (fun K hK => ?_) AllReadyH.nil)
          have pc2 := (cell_of_blk HBp.out 0).trans (show _ = some (.slice qxa RX qxc) from rfl)
          have pz2 := frozen_of_blk HBp.out 0
          have hS56 := Lib.hid (hS53.out.setCell (p := ⟨xb, 0, none⟩) (Nat.le_refl _) (.slice pa51 (RX + 1) pc51))
          go_simp
          clear pc2 pz2
          refine hK.out _ _ hS56 (fun _ => ?_)
          clear hK K
          try simp only [Act.put, List.setIfInBounds_toArray, List.set_cons_zero, List.set_cons_succ]
          refine wpAnyH_done (by kernel_rfl) ?_ _
          have HKe := Lib.hid (((KeepX.of_below hL44.out).trans (fun b o hbo _ h4 => Hpk.out b o hbo h4)).trans (KeepX.set (i := 0) (x := (.slice pa51 (RX + 1) pc51)) HBp.out))
          have hsz6 : w3.heap.size ≤ (wp51.setCell ⟨xb, 0, none⟩ (.slice pa51 (RX + 1) pc51)).heap.size := by
            have h9 := Nat.le_trans hL44.out.size Hpb51.out.size
            simpa [World.setCell] using h9
          have hX6 : IsXo (wp51.setCell ⟨xb, 0, none⟩ (.slice pa51 (RX + 1) pc51)) base2 xb most (rx ++ [(((.slice ca44 on cc44) : Value), ops)]) := ⟨⟨_, _, by
            have e2 : (rx ++ [(((.slice ca44 on cc44) : Value), ops)]).length = RX + 1 := by rw [List.length_append, ← HRX.out]; rfl
            rw [e2]
            exact ⟨(blk_set HBp.out).trans rfl, Hp51.out.far hxlt⟩⟩, hxlt, Nat.le_trans hbs hsz6⟩
          have HX6 := Lib.hid (HB3.out.xs.app hX6 HKe.out)
          have HM6 := Lib.hid (HB3.out.ms.keepD (KeepD.of_keepX HKe.out) hsz6 HB3.out.d1 HB3.out.d2)
          have hl6 : Below lo W (wp51.setCell ⟨xb, 0, none⟩ (.slice pa51 (RX + 1) pc51)) := HbL.out.trans (hS56.out.mono hlx)
          have Hc6 := Lib.hid (HKe.out _ _ HC3.out (fun _ _ => cells_ne (by decide)) (fun _ _ => cells_ne (by decide)))
          have Hl6 := Lib.hid hl6
          generalize wp51.setCell ⟨xb, 0, none⟩ (.slice pa51 (RX + 1) pc51) = w6 at *
          have c5 := (cell_of_blk Hc6.out 5).trans (show _ = some (.slice oa on oc) from rfl)
          have hwr := mwrite_any w6 base mb most rm sm im hd (.slice oa on oc) ops HM6.out.mo (Hov.out w6 Hl6.out) Hs4.out (by rw [← Hm2.out]; omega) (by omega) (by rw [← Hls.out]; omega)
          rw [← Hls.out, ← He0.out] at hwr
          have Mwr := Lib.hid hwr
          clear hwr hl6 hX6 Hc6
          go_wp2_with fail
          refine Mwr.out.mono ?_
          rintro e w7 hq
          obtain ⟨rfl, hz, -, hb7, hk7⟩ := hq.out
          obtain ⟨val, hMo⟩ := hz (by simp)
          have HF : Hid (BothD w7 lo mb xb sb sm im ss is_ as_ most (k + 1) base base2 (rm ++ [(val, ops)]) (rx ++ [(((.slice ca44 on cc44) : Value), ops)]) hd S zs P zi L A N T zt) := Lib.hid (by
            have hB := HB.out
            refine ⟨HM6.out.write hMo hk7, HX6.out.for ((KeepN.of_keepM (sm := sm) (im := im) hk7).docD hb7.size hB.d1 hB.d2), ⟨?_, fun q v hq => ?_, hB.rel.pn, fun q c hq => ?_⟩, hB.d1, hB.d2, ?_, fun r hr => ?_, Nat.le_succ_of_le hB.hk, ⟨Nat.le_succ_of_le hB.zk.1, Nat.le_succ_of_le hB.zk.2.1, Nat.le_succ_of_le hB.zk.2.2⟩, Nat.le_trans (Nat.le_trans HB3.out.lw hsz6) hb7.size, hB.th⟩
            · rw [opsOf_snoc, opsOf_snoc, hB.rel.eq]
            · obtain ⟨n, h1, h2⟩ := hB.rel.sv q v hq
              exact ⟨n, h1, by rw [List.length_append]; omega⟩
            · obtain ⟨n, ks, h1, h2, h3⟩ := hB.rel.pt q c hq
              have e2 : (opsOf (rm ++ [(val, ops)])).take n = (opsOf rm).take n := by rw [opsOf_snoc, List.take_append_of_le_length (by rw [opsOf_len]; exact h2)]
              exact ⟨n, ks, h1, by rw [List.length_append]; omega, by rw [e2]; exact h3⟩
            · have := hB.rl
              rw [List.length_append]
              exact Nat.succ_le_succ this
            · rcases List.mem_append.1 hr with hr | hr
              · exact hB.sz r hr
              · obtain rfl := List.mem_singleton.1 hr
                exact ⟨by rw [← Hm2.out]; exact hs3, Hs4.out⟩)
          have Hfb := Lib.hid (Hl6.out.trans (hb7.mono HB.out.ms.lom))
          have hee : ((0 : Int) == 0) = true := rfl
          clear hq hz hb7 hk7 hMo Mwr c5
          go_wp2_with fail
          go_ret
          exact ⟨rfl, ⟨_, _, _, _, _, _, _, _, _, _, _, _, _, _, HF.out⟩, Hfb.out⟩
  · have hz2 : (e0 == 0) = false := beq_eq_false_iff_ne.2 hz0
    have c5 := (cell_of_blk HC3.out 5).trans (show _ = some (.slice oa on oc) from rfl)
    have hwr := mwrite_any w3 base mb most rm sm im hd (.slice oa on oc) ops HB3.out.ms.mo (Hov.out w3 HbL.out) Hs4.out (by rw [← Hm2.out]; omega) (by omega) (by rw [← Hls.out]; omega)
    rw [← Hls.out, ← He0.out] at hwr
    have Mwr := Lib.hid hwr
    clear hwr
    have hee : (e0 == e0) = true := beq_self_eq_true e0
    go_wp2_with fail
    refine Mwr.out.mono ?_
    rintro e w7 hq
    obtain ⟨rfl, -, hnz, hb7, hk7⟩ := hq.out
    have hMo := hnz hz0
    have HF : Hid (Both w7 lo mb xb sb sm im ss is_ as_ most (k + 1)) := Lib.hid (by
      have hB := HB3.out
      have h7 : BothD w7 lo mb xb sb sm im ss is_ as_ most k base base2 rm rx hd S zs P zi L A N T zt := ⟨hB.ms.write hMo hk7, hB.xs.for ((KeepN.of_keepM (sm := sm) (im := im) hk7).docD hb7.size hB.d1 hB.d2), hB.rel, hB.d1, hB.d2, hB.rl, hB.sz, hB.hk, hB.zk, Nat.le_trans hB.lw hb7.size, hB.th⟩
      exact h7.more)
    have Hfb := Lib.hid (HbL.out.trans (hb7.mono HB.out.ms.lom))
    clear hq hnz hb7 hk7 hMo Mwr c5
    go_wp2_with fail
    go_ret
    exact ⟨rfl, HF.out, Hfb.out⟩
end Go.Proofs.Ytbnodgoccmhjkaa.Tithe
