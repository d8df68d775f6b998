/- A model's Write: walked. -/
import Derived.Test.YtbnodgoccmhjkaaFlatOwn
namespace Go.Proofs.Ytbnodgoccmhjkaa.Tithe
open Go.RowKit Go.Sort Go.Shelf
set_option linter.unusedVariables false
set_option linter.unusedSimpArgs false
set_option maxRecDepth 100000
/-- a model: its block, and its writes, of a call's own -/
structure IsMo (W : World) (base mb : Nat) (most : Int) (rows : List Wr) (sm im : Nat) (hd : Int) : Prop where
  ex : ∃ a c, W.heap[mb]? = some (.cells (moC most (lastN rows : Nat) (.slice a rows.length c) sm im hd) 78 (0, 0)) ∧ OwnMw W base (.slice a rows.length c) rows
  lt : mb < base
  le : base ≤ W.heap.size
theorem IsMo.bel {w w' : World} {base mb : Nat} {most : Int} {rows : List Wr} {sm im : Nat} {hd : Int} (h : IsMo w base mb most rows sm im hd) (hb : Below w.heap.size w w') : IsMo w' base mb most rows sm im hd := by
  obtain ⟨a, c, h1, h2⟩ := h.ex
  exact ⟨⟨a, c, blk_bels hb h1, h2.below hb⟩, h.lt, Nat.le_trans h.le hb.size⟩
/-- all but models and rows of writes is as it was -/
def KeepM (w w' : World) : Prop := ∀ (b : Nat) (o : Obj), w.heap[b]? = some o → (∀ cs fr, o ≠ .cells cs 78 fr) → (∀ cs fr, o ≠ .cells cs 37 fr) → w'.heap[b]? = some o
theorem KeepM.of_below {w w' : World} (hb : Below w.heap.size w w') : KeepM w w' := fun b o h _ _ => blk_bels hb h
theorem KeepM.trans {a b c : World} (h : KeepM a b) (h2 : KeepM b c) : KeepM a c := fun q o hq h3 h4 => h2 q o (h q o hq h3 h4) h3 h4
theorem KeepM.grown {w w' : World} {v : Value} {base : Nat} {n : Nat} {xs : List Value} (ho : w.ownsRow base 37 1 v n xs) (hg : w.grownBy w' v.ownBlock) : KeepM w w' := fun b o h h3 h4 => by
  refine (hg.block b (blk_lt h) (fun e => ?_)).trans h
  obtain ⟨cur, hc⟩ := own_rowblk ho b e.symm
  rw [h] at hc
  injection hc with hc
  exact h4 _ _ hc
theorem KeepM.set {w : World} {mb i : Nat} {x : Value} {cs : Array Value} (h : w.heap[mb]? = some (.cells cs 78 (0, 0))) : KeepM w (w.setCell ⟨mb, i, none⟩ x) := fun b o hb h3 h4 => by
  refine (Below.heap_setCell w ⟨mb, i, none⟩ x b (fun e => ?_)).trans hb
  have e2 : b = mb := e
  subst e2
  rw [h] at hb
  injection hb with hb
  exact h3 _ _ hb.symm
attribute [local go_sem] Oper.semAt_some
theorem mlast_any (W : World) (mb : Nat) (most last : Int) (wv : Value) (sm im : Nat) (hd : Int) (hB : W.heap[mb]? = some (.cells (moC most last wv sm im hd) 78 (0, 0))) :
    Calls Try.prog 25 #[.pointer (some ⟨mb, 0, none⟩)] W fun e W' => e = .returned (.int .i64 last) ∧ W' = W := by
  have m1 := (cell_of_blk hB 1).trans (show _ = some (.int .i64 last) from rfl)
  clear hB
  go_enter Try.func25, Try.ntmps25
  go_wp2_with fail
  go_ret
  exact ⟨rfl, rfl⟩
theorem mwrites_any (W : World) (mb : Nat) (most last : Int) (a : Option Addr) (n c : Nat) (sm im : Nat) (hd : Int) (hB : W.heap[mb]? = some (.cells (moC most last (.slice a n c) sm im hd) 78 (0, 0))) :
    Calls Try.prog 16 #[.pointer (some ⟨mb, 0, none⟩)] W fun e W' => e = .returned (.int .i64 n) ∧ W' = W := by
  have m2 := (cell_of_blk hB 2).trans (show _ = some (.slice a n c) from rfl)
  clear hB
  go_enter Try.func16, Try.ntmps16
  go_wp2_with fail
  go_ret
  exact ⟨rfl, rfl⟩
theorem lastN_snoc (rows : List Wr) (r : Wr) : lastN (rows ++ [r]) = lastN rows + r.2.length := by
  unfold lastN
  rw [List.map_append, List.sum_append]; simp
set_option maxHeartbeats 3200000 in
theorem mwrite_any (w : World) (base mb : Nat) (most : Int) (rows : List Wr) (sm im : Nat) (hd : Int) (v : Value) (l : List Bo) (h : IsMo w base mb most rows sm im hd) (hv : IsOs w v l) (hsm : ∀ x ∈ l, x.u.size ≤ 200 ∧ x.v.size ≤ 500) (hl : l.length ≤ 1000) (hrl : rows.length ≤ 1000) (hll : lastN rows ≤ 1000000) :
    Calls Try.prog 20 #[.pointer (some ⟨mb, 0, none⟩), v] w fun e w' => Hid (e = .returned (.int .i64 (chkM most (lastN rows : Nat) l)) ∧ (chkM most (lastN rows : Nat) l = 0 → ∃ val, IsMo w' base mb most (rows ++ [(val, l)]) sm im hd) ∧ (chkM most (lastN rows : Nat) l ≠ 0 → IsMo w' base mb most rows sm im hd) ∧ Below mb w w' ∧ KeepM w w') := by
  have H := Lib.hid h
  obtain ⟨wa, wc, hB, hO⟩ := h.ex
  obtain ⟨a, c, rfl, -, -, -⟩ := id hv
  obtain ⟨ls, hls⟩ : ∃ q, q = lastN rows := ⟨_, rfl⟩
  obtain ⟨rl, hrl2⟩ : ∃ q, q = rows.length := ⟨_, rfl⟩
  obtain ⟨n, hn⟩ : ∃ q, q = l.length := ⟨_, rfl⟩
  rw [← hls, ← hrl2] at hB
  rw [← hrl2] at hO
  rw [← hls] at hll ⊢
  rw [← hn] at hl hv ⊢
  rw [← hrl2] at hrl
  have hmlt : mb < w.heap.size := Nat.lt_of_lt_of_le h.lt h.le
  have Hck := Lib.hid (mcheck_any mb most (ls : Int) (.slice wa rl wc) sm im hd (.slice a n c) l w hB (by omega) (by omega) hv hsm)
  have HO := Lib.hid hO
  have HB := Lib.hid hB
  have Hv := Lib.hid hv
  have Hls := Lib.hid hls
  have Hrl := Lib.hid hrl2
  have Hn := Lib.hid hn
  obtain ⟨e0, he0⟩ : ∃ q, q = chkM most (ls : Int) l := ⟨_, rfl⟩
  rw [← he0] at Hck ⊢
  clear h hB hO hv hls hrl2 hn hsm he0
  go_enter Try.func20, Try.ntmps20
  go_wp2_with fail
  refine Hck.out.mono ?_
  rintro e w2 ⟨rfl, hb2⟩
  have Hb2 := Lib.hid hb2
  have hms : mb ≤ w2.heap.size := Nat.le_trans (Nat.le_of_lt hmlt) hb2.size
  have HB2 := Lib.hid (blk_bels hb2 HB.out)
  have HO2 := Lib.hid (HO.out.below hb2)
  have Hv2 := Lib.hid (Hv.out.below hb2)
  clear hb2 Hck HB HO Hv
  by_cases hz : e0 = 0
  · subst hz
    have m2 := (cell_of_blk HB2.out 2).trans (show _ = some (.slice wa rl wc) from rfl)
    have hbs : base ≤ w2.heap.size := Nat.le_trans H.out.le Hb2.out.size
    have hmb := H.out.lt
    have HCl := Lib.hid (fun (A : World) (hA : Below w2.heap.size w2 A) => oclone_any (.slice a n c) l A (Hv2.out.below hA) (by rw [← Hn.out]; omega))
    go_upto_region 3 with fail
    refine wp_region_held_drew (S := fun V' => Hid (Below mb w2 V')) (by kernel_rfl) (Lib.hid ((Below.refl _ _).drew)) (fun hS0 => ?_)
    have hL0 : Hid (Below w2.heap.size w2 w2.drew) := Lib.hid ((Below.refl _ _).drew)
    refine wpAnyH_take (i := 0) (oi := { dst := some 11, op := Op.move (Operand.tmp 0), type := 25, pos := "flat.go:57", after := #[], guard := none }) (v := ?_) rfl (by kernel_rfl) (by kernel_rfl) (by kernel_rfl) (fun _ _ _ h => h) (Or.inl ⟨by rfl, ?hy1⟩) hS0 ?_
    case hy1 => (intro V hSw; (try dsimp only at hSw); clear hSw; go_simp; try with_reducible rfl)
    try simp only [Act.put, List.setIfInBounds_toArray, List.set_cons_zero, List.set_cons_succ]
    refine wpAnyH_take (i := 1) (oi := { dst := some 12, op := Op.move (Operand.tmp 0), type := 25, pos := "flat.go:57", after := #[], guard := none }) (v := ?_) rfl (by kernel_rfl) (by kernel_rfl) (by kernel_rfl) (fun _ _ _ h => h) (Or.inl ⟨by rfl, ?hy2⟩) hS0 ?_
    case hy2 => (intro V hSw; (try dsimp only at hSw); clear hSw; go_simp; try with_reducible rfl)
    try simp only [Act.put, List.setIfInBounds_toArray, List.set_cons_zero, List.set_cons_succ]
    refine wpAnyH_take (i := 2) (oi := { dst := some 13, op := Op.nilCheck (Operand.tmp 12), type := 0, pos := "flat.go:57", after := #[{ on := 1, ground := Ground.data }], guard := none }) (v := ?_) rfl (by kernel_rfl) (by kernel_rfl) (by kernel_rfl) (fun _ _ _ h => h) (Or.inl ⟨by rfl, ?hy3⟩) hS0 ?_
    case hy3 => (intro V hSw; (try dsimp only at hSw); clear hSw; go_simp; try with_reducible rfl)
    try simp only [Act.put, List.setIfInBounds_toArray, List.set_cons_zero, List.set_cons_succ]
    refine wpAnyH_take (i := 3) (oi := { dst := some 14, op := Op.fieldAddr 78 (Operand.tmp 13) 2, type := 0, pos := "flat.go:57", after := #[{ on := 2, ground := Ground.data }], guard := none }) (v := ?_) rfl (by kernel_rfl) (by kernel_rfl) (by kernel_rfl) (fun _ _ _ h => h) (Or.inl ⟨by rfl, ?hy4⟩) hS0 ?_
    case hy4 => (intro V hSw; (try dsimp only at hSw); clear hSw; go_simp; try with_reducible rfl)
    try simp only [Act.put, List.setIfInBounds_toArray, List.set_cons_zero, List.set_cons_succ]
    refine wpAnyH_take (i := 5) (oi := { dst := some 16, op := Op.move (Operand.tmp 1), type := 37, pos := "flat.go:57", after := #[], guard := none }) (v := ?_) rfl (by kernel_rfl) (by kernel_rfl) (by kernel_rfl) (fun _ _ _ h => h) (Or.inl ⟨by rfl, ?hy5⟩) hS0 ?_
    case hy5 => (intro V hSw; (try dsimp only at hSw); clear hSw; go_simp; try with_reducible rfl)
    try simp only [Act.put, List.setIfInBounds_toArray, List.set_cons_zero, List.set_cons_succ]
    refine wpAnyH_ready (rs := [4, 6]) (by kernel_rfl) (by simp) (AllReadyH.cons rfl (fun K hK => ?_) (AllReadyH.cons rfl (fun K hK => ?_) AllReadyH.nil))
    · have ml6 := m2
      go_simp
      clear ml6
      refine hK.out _ _ hS0 (fun _ => ?_)
      clear hK K
      try simp only [Act.put, List.setIfInBounds_toArray, List.set_cons_zero, List.set_cons_succ]
      refine wpAnyH_ready (rs := [6]) (by kernel_rfl) (by simp) (AllReadyH.cons rfl (fun K hK => ?_) AllReadyH.nil)
      go_simp
      refine (HCl.out _ hL0.out).mono ?_
      rintro e wv7 ⟨vc7, rfl, hown7, hv7⟩
      have hL7 := Lib.hid (hL0.out.trans (hv7.mono hL0.out.size))
      have hS7 := Lib.hid (hL7.out.mono hms)
      rw [← Hn.out] at hown7
      obtain ⟨ca7, cc7, rfl⟩ := own_slice hown7
      have HC := Lib.hid (own_mono hown7 (Nat.le_trans hbs hL0.out.size))
      have cm7 := (cell_of_blk (blk_bels hL7.out HB2.out) 2).trans (show _ = some (.slice wa rl wc) from rfl)
      clear hv7 hown7
      refine hK.out _ _ hS7 (fun _ => ?_)
      clear hK K
      try simp only [Act.put, List.setIfInBounds_toArray, List.set_cons_zero, List.set_cons_succ]
      refine wpAnyH_ready (rs := [7]) (by kernel_rfl) (by simp) (AllReadyH.cons rfl (fun K hK => ?_) AllReadyH.nil)
      obtain ⟨pa8, pc8, wp8, hrun8, hpo8, hpb8, hpk8⟩ := push_rs (T := 37) (O := 40) Try.underlying22 wrInfo (by decide) wv7 base (.slice wa rl wc) rows ((.slice ca7 n cc7), l) (HO2.out.below hL7.out) (by rw [← Hn.out]; exact HC.out) rfl (by rw [← Hrl.out]; omega) (Nat.le_trans hbs hL7.out.size)
      rw [← Hrl.out] at hrun8 hpo8
      dsimp only at hrun8
      have Hp8 := Lib.hid hpo8
      have Hpb8 := Lib.hid hpb8
      have Hpk := Lib.hid hpk8
      have hS8 := Lib.hid (hS7.out.alloc (Nat.le_trans hms hL7.out.size) (.cells #[(.slice ca7 n cc7)] 37))
      have hL8 := Lib.hid (hL7.out.alloc hL7.out.size (.cells #[(.slice ca7 n cc7)] 37))
      have cm8 := (cell_of_blk (blk_bels hL8.out HB2.out) 2).trans (show _ = some (.slice wa rl wc) from rfl)
      go_simp
      clear hpo8 hpb8 hpk8
      refine hK.out _ _ hS8 (fun _ => ?_)
      clear hK K
      try simp only [Act.put, List.setIfInBounds_toArray, List.set_cons_zero, List.set_cons_succ]
      refine wpAnyH_ready (rs := [8]) (by kernel_rfl) (by simp) (AllReadyH.cons rfl (fun K hK => ?_) AllReadyH.nil)
      have HBp := Lib.hid ((Hpb8.out.block mb hmb).trans (blk_bels hL7.out HB2.out))
      have hS9 := Lib.hid ((hL7.out.mono hms).trans (Hpb8.out.mono (Nat.le_of_lt hmb)))
      refine wp_append_run (.tmp 15) (.tmp 18) 22 rfl _ _ _ _ rfl rfl hrun8 ?_
      refine hK.out _ _ hS9 (fun _ => ?_)
      clear hK K
      try simp only [Act.put, List.setIfInBounds_toArray, List.set_cons_zero, List.set_cons_succ]
      refine wpAnyH_take (i := 9) (oi := { dst := some 20, op := Op.nilCheck (Operand.tmp 11), type := 0, pos := "flat.go:57", after := #[{ on := 0, ground := Ground.data }, { on := 0, ground := Ground.phase }, { on := 1, ground := Ground.phase }, { on := 2, ground := Ground.phase }, { on := 3, ground := Ground.phase }, { on := 4, ground := Ground.phase }, { on := 5, ground := Ground.phase }, { on := 6, ground := Ground.phase }, { on := 7, ground := Ground.phase }, { on := 8, ground := Ground.phase }], guard := none }) (v := ?_) rfl (by kernel_rfl) (by kernel_rfl) (by kernel_rfl) (fun _ _ _ h => h) (Or.inl ⟨by rfl, ?hy10⟩) hS9 ?_
      case hy10 => (intro V hSw; (try dsimp only at hSw); clear hSw; go_simp; try with_reducible rfl)
      try simp only [Act.put, List.setIfInBounds_toArray, List.set_cons_zero, List.set_cons_succ]
      refine wpAnyH_take (i := 10) (oi := { dst := some 21, op := Op.fieldAddr 78 (Operand.tmp 20) 2, type := 0, pos := "flat.go:57", after := #[{ on := 9, ground := Ground.data }, { on := 0, ground := Ground.phase }, { on := 1, ground := Ground.phase }, { on := 2, ground := Ground.phase }, { on := 3, ground := Ground.phase }, { on := 4, ground := Ground.phase }, { on := 5, ground := Ground.phase }, { on := 6, ground := Ground.phase }, { on := 7, ground := Ground.phase }, { on := 8, ground := Ground.phase }], guard := none }) (v := ?_) rfl (by kernel_rfl) (by kernel_rfl) (by kernel_rfl) (fun _ _ _ h => h) (Or.inl ⟨by rfl, ?hy11⟩) hS9 ?_
      case hy11 => (intro V hSw; (try dsimp only at hSw); clear hSw; go_simp; try with_reducible rfl)
      try simp only [Act.put, List.setIfInBounds_toArray, List.set_cons_zero, List.set_cons_succ]
      refine wpAnyH_ready (rs := [11]) (by kernel_rfl) (by simp) (AllReadyH.cons rfl (fun K hK => ?_) AllReadyH.nil)
      have pc2 := (cell_of_blk HBp.out 2).trans (show _ = some (.slice wa rl wc) from rfl)
      have pz2 := frozen_of_blk HBp.out 2
      have hS12 := Lib.hid (hS9.out.setCell (p := ⟨mb, 2, none⟩) (Nat.le_refl _) (.slice pa8 (rl + 1) pc8))
      go_simp
      clear pc2 pz2
      refine hK.out _ _ hS12 (fun _ => ?_)
      clear hK K
      try simp only [Act.put, List.setIfInBounds_toArray, List.set_cons_zero, List.set_cons_succ]
      refine wpAnyH_done (by kernel_rfl) ?_ _
      have HB6 : Hid ((wp8.setCell ⟨mb, 2, none⟩ (.slice pa8 (rl + 1) pc8)).heap[mb]? = some (.cells (moC most (ls : Int) (.slice pa8 (rl + 1) pc8) sm im hd) 78 (0, 0))) := Lib.hid ((blk_set HBp.out).trans rfl)
      have q1 := (cell_of_blk HB6.out 1).trans (show _ = some (.int .i64 (ls : Int)) from rfl)
      have z1 := frozen_of_blk HB6.out 1
      have HB7 : Hid (((wp8.setCell ⟨mb, 2, none⟩ (.slice pa8 (rl + 1) pc8)).setCell ⟨mb, 1, none⟩ (.int .i64 ((ls + n : Nat) : Int))).heap[mb]? = some (.cells (moC most ((ls + n : Nat) : Int) (.slice pa8 (rl + 1) pc8) sm im hd) 78 (0, 0))) := Lib.hid ((blk_set HB6.out).trans rfl)
      have hws : IntKind.i64.wrap ((ls : Int) + (n : Int)) = ((ls + n : Nat) : Int) := (IntWalk.i64_in _ (by omega)).trans (by omega)
      have HS7 := Lib.hid (hS12.out.setCell (p := ⟨mb, 1, none⟩) (Nat.le_refl _) (.int .i64 ((ls + n : Nat) : Int)))
      have HKe := Lib.hid ((((KeepM.of_below Hb2.out).trans (KeepM.of_below hL7.out)).trans (fun b o hbo _ h4 => Hpk.out b o hbo h4)).trans ((KeepM.set HBp.out).trans (KeepM.set (i := 1) (x := .int .i64 ((ls + n : Nat) : Int)) HB6.out)))
      have HMe : Hid (∃ val, IsMo ((wp8.setCell ⟨mb, 2, none⟩ (.slice pa8 (rl + 1) pc8)).setCell ⟨mb, 1, none⟩ (.int .i64 ((ls + n : Nat) : Int))) base mb most (rows ++ [(val, l)]) sm im hd) := Lib.hid ⟨_, ⟨_, _, by
        have e1 : lastN (rows ++ [(((.slice ca7 n cc7) : Value), l)]) = ls + n := by rw [lastN_snoc, ← Hls.out, Hn.out]
        have e2 : (rows ++ [(((.slice ca7 n cc7) : Value), l)]).length = rl + 1 := by rw [List.length_append, ← Hrl.out]; rfl
        rw [e1, e2]
        exact ⟨HB7.out, (Hp8.out.far hmb).far hmb⟩⟩, hmb, by
        have h9 := Nat.le_trans hbs (Nat.le_trans hL7.out.size Hpb8.out.size)
        simpa [World.setCell] using h9⟩
      have HBe := Lib.hid ((Hb2.out.mono (Nat.le_of_lt hmlt)).trans HS7.out)
      go_wp2_with fail
      go_ret
      first
        | exact Lib.hid ⟨rfl, HMe.out, HBe.out, HKe.out⟩
        | exact Lib.hid ⟨rfl, fun _ => HMe.out, fun q => absurd rfl q, HBe.out, HKe.out⟩
    · go_simp
      refine (HCl.out _ hL0.out).mono ?_
      rintro e wv13 ⟨vc13, rfl, hown13, hv13⟩
      have hL13 := Lib.hid (hL0.out.trans (hv13.mono hL0.out.size))
      have hS13 := Lib.hid (hL13.out.mono hms)
      rw [← Hn.out] at hown13
      obtain ⟨ca13, cc13, rfl⟩ := own_slice hown13
      have HC := Lib.hid (own_mono hown13 (Nat.le_trans hbs hL0.out.size))
      have cm13 := (cell_of_blk (blk_bels hL13.out HB2.out) 2).trans (show _ = some (.slice wa rl wc) from rfl)
      clear hv13 hown13
      refine hK.out _ _ hS13 (fun _ => ?_)
      clear hK K
      try simp only [Act.put, List.setIfInBounds_toArray, List.set_cons_zero, List.set_cons_succ]
      refine wpAnyH_ready (rs := [4, 7]) (by kernel_rfl) (by simp) (AllReadyH.cons rfl (fun K hK => ?_) (AllReadyH.cons rfl (fun K hK => ?_) AllReadyH.nil))
      · have ml14 := cm13
        go_simp
        clear ml14
        refine hK.out _ _ hS13 (fun _ => ?_)
        clear hK K
        try simp only [Act.put, List.setIfInBounds_toArray, List.set_cons_zero, List.set_cons_succ]
        refine wpAnyH_ready (rs := [7]) (by kernel_rfl) (by simp) (AllReadyH.cons rfl (fun K hK => ?_) AllReadyH.nil)
        obtain ⟨pa15, pc15, wp15, hrun15, hpo15, hpb15, hpk15⟩ := push_rs (T := 37) (O := 40) Try.underlying22 wrInfo (by decide) wv13 base (.slice wa rl wc) rows ((.slice ca13 n cc13), l) (HO2.out.below hL13.out) (by rw [← Hn.out]; exact HC.out) rfl (by rw [← Hrl.out]; omega) (Nat.le_trans hbs hL13.out.size)
        rw [← Hrl.out] at hrun15 hpo15
        dsimp only at hrun15
        have Hp15 := Lib.hid hpo15
        have Hpb15 := Lib.hid hpb15
        have Hpk := Lib.hid hpk15
        have hS15 := Lib.hid (hS13.out.alloc (Nat.le_trans hms hL13.out.size) (.cells #[(.slice ca13 n cc13)] 37))
        have hL15 := Lib.hid (hL13.out.alloc hL13.out.size (.cells #[(.slice ca13 n cc13)] 37))
        have cm15 := (cell_of_blk (blk_bels hL15.out HB2.out) 2).trans (show _ = some (.slice wa rl wc) from rfl)
        go_simp
        clear hpo15 hpb15 hpk15
        refine hK.out _ _ hS15 (fun _ => ?_)
        clear hK K
        try simp only [Act.put, List.setIfInBounds_toArray, List.set_cons_zero, List.set_cons_succ]
        refine wpAnyH_ready (rs := [8]) (by kernel_rfl) (by simp) (AllReadyH.cons rfl (fun K hK => ?_) AllReadyH.nil)
        have HBp := Lib.hid ((Hpb15.out.block mb hmb).trans (blk_bels hL13.out HB2.out))
        have hS16 := Lib.hid ((hL13.out.mono hms).trans (Hpb15.out.mono (Nat.le_of_lt hmb)))
        refine wp_append_run (.tmp 15) (.tmp 18) 22 rfl _ _ _ _ rfl rfl hrun15 ?_
        refine hK.out _ _ hS16 (fun _ => ?_)
        clear hK K
        try simp only [Act.put, List.setIfInBounds_toArray, List.set_cons_zero, List.set_cons_succ]
        refine wpAnyH_take (i := 9) (oi := { dst := some 20, op := Op.nilCheck (Operand.tmp 11), type := 0, pos := "flat.go:57", after := #[{ on := 0, ground := Ground.data }, { on := 0, ground := Ground.phase }, { on := 1, ground := Ground.phase }, { on := 2, ground := Ground.phase }, { on := 3, ground := Ground.phase }, { on := 4, ground := Ground.phase }, { on := 5, ground := Ground.phase }, { on := 6, ground := Ground.phase }, { on := 7, ground := Ground.phase }, { on := 8, ground := Ground.phase }], guard := none }) (v := ?_) rfl (by kernel_rfl) (by kernel_rfl) (by kernel_rfl) (fun _ _ _ h => h) (Or.inl ⟨by rfl, ?hy17⟩) hS16 ?_
        case hy17 => (intro V hSw; (try dsimp only at hSw); clear hSw; go_simp; try with_reducible rfl)
        try simp only [Act.put, List.setIfInBounds_toArray, List.set_cons_zero, List.set_cons_succ]
        refine wpAnyH_take (i := 10) (oi := { dst := some 21, op := Op.fieldAddr 78 (Operand.tmp 20) 2, type := 0, pos := "flat.go:57", after := #[{ on := 9, ground := Ground.data }, { on := 0, ground := Ground.phase }, { on := 1, ground := Ground.phase }, { on := 2, ground := Ground.phase }, { on := 3, ground := Ground.phase }, { on := 4, ground := Ground.phase }, { on := 5, ground := Ground.phase }, { on := 6, ground := Ground.phase }, { on := 7, ground := Ground.phase }, { on := 8, ground := Ground.phase }], guard := none }) (v := ?_) rfl (by kernel_rfl) (by kernel_rfl) (by kernel_rfl) (fun _ _ _ h => h) (Or.inl ⟨by rfl, ?hy18⟩) hS16 ?_
        case hy18 => (intro V hSw; (try dsimp only at hSw); clear hSw; go_simp; try with_reducible rfl)
        try simp only [Act.put, List.setIfInBounds_toArray, List.set_cons_zero, List.set_cons_succ]
        refine wpAnyH_ready (rs := [11]) (by kernel_rfl) (by simp) (AllReadyH.cons rfl (fun K hK => ?_) AllReadyH.nil)
        have pc2 := (cell_of_blk HBp.out 2).trans (show _ = some (.slice wa rl wc) from rfl)
        have pz2 := frozen_of_blk HBp.out 2
        have hS19 := Lib.hid (hS16.out.setCell (p := ⟨mb, 2, none⟩) (Nat.le_refl _) (.slice pa15 (rl + 1) pc15))
        go_simp
        clear pc2 pz2
        refine hK.out _ _ hS19 (fun _ => ?_)
        clear hK K
        try simp only [Act.put, List.setIfInBounds_toArray, List.set_cons_zero, List.set_cons_succ]
        refine wpAnyH_done (by kernel_rfl) ?_ _
        have HB6 : Hid ((wp15.setCell ⟨mb, 2, none⟩ (.slice pa15 (rl + 1) pc15)).heap[mb]? = some (.cells (moC most (ls : Int) (.slice pa15 (rl + 1) pc15) sm im hd) 78 (0, 0))) := Lib.hid ((blk_set HBp.out).trans rfl)
        have q1 := (cell_of_blk HB6.out 1).trans (show _ = some (.int .i64 (ls : Int)) from rfl)
        have z1 := frozen_of_blk HB6.out 1
        have HB7 : Hid (((wp15.setCell ⟨mb, 2, none⟩ (.slice pa15 (rl + 1) pc15)).setCell ⟨mb, 1, none⟩ (.int .i64 ((ls + n : Nat) : Int))).heap[mb]? = some (.cells (moC most ((ls + n : Nat) : Int) (.slice pa15 (rl + 1) pc15) sm im hd) 78 (0, 0))) := Lib.hid ((blk_set HB6.out).trans rfl)
        have hws : IntKind.i64.wrap ((ls : Int) + (n : Int)) = ((ls + n : Nat) : Int) := (IntWalk.i64_in _ (by omega)).trans (by omega)
        have HS7 := Lib.hid (hS19.out.setCell (p := ⟨mb, 1, none⟩) (Nat.le_refl _) (.int .i64 ((ls + n : Nat) : Int)))
        have HKe := Lib.hid ((((KeepM.of_below Hb2.out).trans (KeepM.of_below hL13.out)).trans (fun b o hbo _ h4 => Hpk.out b o hbo h4)).trans ((KeepM.set HBp.out).trans (KeepM.set (i := 1) (x := .int .i64 ((ls + n : Nat) : Int)) HB6.out)))
        have HMe : Hid (∃ val, IsMo ((wp15.setCell ⟨mb, 2, none⟩ (.slice pa15 (rl + 1) pc15)).setCell ⟨mb, 1, none⟩ (.int .i64 ((ls + n : Nat) : Int))) base mb most (rows ++ [(val, l)]) sm im hd) := Lib.hid ⟨_, ⟨_, _, by
          have e1 : lastN (rows ++ [(((.slice ca13 n cc13) : Value), l)]) = ls + n := by rw [lastN_snoc, ← Hls.out, Hn.out]
          have e2 : (rows ++ [(((.slice ca13 n cc13) : Value), l)]).length = rl + 1 := by rw [List.length_append, ← Hrl.out]; rfl
          rw [e1, e2]
          exact ⟨HB7.out, (Hp15.out.far hmb).far hmb⟩⟩, hmb, by
          have h9 := Nat.le_trans hbs (Nat.le_trans hL13.out.size Hpb15.out.size)
          simpa [World.setCell] using h9⟩
        have HBe := Lib.hid ((Hb2.out.mono (Nat.le_of_lt hmlt)).trans HS7.out)
        go_wp2_with fail
        go_ret
        first
          | exact Lib.hid ⟨rfl, HMe.out, HBe.out, HKe.out⟩
          | exact Lib.hid ⟨rfl, fun _ => HMe.out, fun q => absurd rfl q, HBe.out, HKe.out⟩
      · obtain ⟨pa20, pc20, wp20, hrun20, hpo20, hpb20, hpk20⟩ := push_rs (T := 37) (O := 40) Try.underlying22 wrInfo (by decide) wv13 base (.slice wa rl wc) rows ((.slice ca13 n cc13), l) (HO2.out.below hL13.out) (by rw [← Hn.out]; exact HC.out) rfl (by rw [← Hrl.out]; omega) (Nat.le_trans hbs hL13.out.size)
        rw [← Hrl.out] at hrun20 hpo20
        dsimp only at hrun20
        have Hp20 := Lib.hid hpo20
        have Hpb20 := Lib.hid hpb20
        have Hpk := Lib.hid hpk20
        have hS20 := Lib.hid (hS13.out.alloc (Nat.le_trans hms hL13.out.size) (.cells #[(.slice ca13 n cc13)] 37))
        have hL20 := Lib.hid (hL13.out.alloc hL13.out.size (.cells #[(.slice ca13 n cc13)] 37))
        have cm20 := (cell_of_blk (blk_bels hL20.out HB2.out) 2).trans (show _ = some (.slice wa rl wc) from rfl)
        go_simp
        clear hpo20 hpb20 hpk20
        refine hK.out _ _ hS20 (fun _ => ?_)
        clear hK K
        try simp only [Act.put, List.setIfInBounds_toArray, List.set_cons_zero, List.set_cons_succ]
        refine wpAnyH_ready (rs := [4]) (by kernel_rfl) (by simp) (AllReadyH.cons rfl (fun K hK => ?_) AllReadyH.nil)
        have ml21 := cm20
        go_simp
        clear ml21
        refine hK.out _ _ hS20 (fun _ => ?_)
        clear hK K
        try simp only [Act.put, List.setIfInBounds_toArray, List.set_cons_zero, List.set_cons_succ]
        refine wpAnyH_ready (rs := [8]) (by kernel_rfl) (by simp) (AllReadyH.cons rfl (fun K hK => ?_) AllReadyH.nil)
        have HBp := Lib.hid ((Hpb20.out.block mb hmb).trans (blk_bels hL13.out HB2.out))
        have hS22 := Lib.hid ((hL13.out.mono hms).trans (Hpb20.out.mono (Nat.le_of_lt hmb)))
        refine wp_append_run (.tmp 15) (.tmp 18) 22 rfl _ _ _ _ rfl rfl hrun20 ?_
        refine hK.out _ _ hS22 (fun _ => ?_)
        clear hK K
        try simp only [Act.put, List.setIfInBounds_toArray, List.set_cons_zero, List.set_cons_succ]
        refine wpAnyH_take (i := 9) (oi := { dst := some 20, op := Op.nilCheck (Operand.tmp 11), type := 0, pos := "flat.go:57", after := #[{ on := 0, ground := Ground.data }, { on := 0, ground := Ground.phase }, { on := 1, ground := Ground.phase }, { on := 2, ground := Ground.phase }, { on := 3, ground := Ground.phase }, { on := 4, ground := Ground.phase }, { on := 5, ground := Ground.phase }, { on := 6, ground := Ground.phase }, { on := 7, ground := Ground.phase }, { on := 8, ground := Ground.phase }], guard := none }) (v := ?_) rfl (by kernel_rfl) (by kernel_rfl) (by kernel_rfl) (fun _ _ _ h => h) (Or.inl ⟨by rfl, ?hy23⟩) hS22 ?_
        case hy23 => (intro V hSw; (try dsimp only at hSw); clear hSw; go_simp; try with_reducible rfl)
        try simp only [Act.put, List.setIfInBounds_toArray, List.set_cons_zero, List.set_cons_succ]
        refine wpAnyH_take (i := 10) (oi := { dst := some 21, op := Op.fieldAddr 78 (Operand.tmp 20) 2, type := 0, pos := "flat.go:57", after := #[{ on := 9, ground := Ground.data }, { on := 0, ground := Ground.phase }, { on := 1, ground := Ground.phase }, { on := 2, ground := Ground.phase }, { on := 3, ground := Ground.phase }, { on := 4, ground := Ground.phase }, { on := 5, ground := Ground.phase }, { on := 6, ground := Ground.phase }, { on := 7, ground := Ground.phase }, { on := 8, ground := Ground.phase }], guard := none }) (v := ?_) rfl (by kernel_rfl) (by kernel_rfl) (by kernel_rfl) (fun _ _ _ h => h) (Or.inl ⟨by rfl, ?hy24⟩) hS22 ?_
        case hy24 => (intro V hSw; (try dsimp only at hSw); clear hSw; go_simp; try with_reducible rfl)
        try simp only [Act.put, List.setIfInBounds_toArray, List.set_cons_zero, List.set_cons_succ]
        refine wpAnyH_ready (rs := [11]) (by kernel_rfl) (by simp) (AllReadyH.cons rfl (fun K hK => ?_) AllReadyH.nil)
        have pc2 := (cell_of_blk HBp.out 2).trans (show _ = some (.slice wa rl wc) from rfl)
        have pz2 := frozen_of_blk HBp.out 2
        have hS25 := Lib.hid (hS22.out.setCell (p := ⟨mb, 2, none⟩) (Nat.le_refl _) (.slice pa20 (rl + 1) pc20))
        go_simp
        clear pc2 pz2
        refine hK.out _ _ hS25 (fun _ => ?_)
        clear hK K
        try simp only [Act.put, List.setIfInBounds_toArray, List.set_cons_zero, List.set_cons_succ]
        refine wpAnyH_done (by kernel_rfl) ?_ _
        have HB6 : Hid ((wp20.setCell ⟨mb, 2, none⟩ (.slice pa20 (rl + 1) pc20)).heap[mb]? = some (.cells (moC most (ls : Int) (.slice pa20 (rl + 1) pc20) sm im hd) 78 (0, 0))) := Lib.hid ((blk_set HBp.out).trans rfl)
        have q1 := (cell_of_blk HB6.out 1).trans (show _ = some (.int .i64 (ls : Int)) from rfl)
        have z1 := frozen_of_blk HB6.out 1
        have HB7 : Hid (((wp20.setCell ⟨mb, 2, none⟩ (.slice pa20 (rl + 1) pc20)).setCell ⟨mb, 1, none⟩ (.int .i64 ((ls + n : Nat) : Int))).heap[mb]? = some (.cells (moC most ((ls + n : Nat) : Int) (.slice pa20 (rl + 1) pc20) sm im hd) 78 (0, 0))) := Lib.hid ((blk_set HB6.out).trans rfl)
        have hws : IntKind.i64.wrap ((ls : Int) + (n : Int)) = ((ls + n : Nat) : Int) := (IntWalk.i64_in _ (by omega)).trans (by omega)
        have HS7 := Lib.hid (hS25.out.setCell (p := ⟨mb, 1, none⟩) (Nat.le_refl _) (.int .i64 ((ls + n : Nat) : Int)))
        have HKe := Lib.hid ((((KeepM.of_below Hb2.out).trans (KeepM.of_below hL13.out)).trans (fun b o hbo _ h4 => Hpk.out b o hbo h4)).trans ((KeepM.set HBp.out).trans (KeepM.set (i := 1) (x := .int .i64 ((ls + n : Nat) : Int)) HB6.out)))
        have HMe : Hid (∃ val, IsMo ((wp20.setCell ⟨mb, 2, none⟩ (.slice pa20 (rl + 1) pc20)).setCell ⟨mb, 1, none⟩ (.int .i64 ((ls + n : Nat) : Int))) base mb most (rows ++ [(val, l)]) sm im hd) := Lib.hid ⟨_, ⟨_, _, by
          have e1 : lastN (rows ++ [(((.slice ca13 n cc13) : Value), l)]) = ls + n := by rw [lastN_snoc, ← Hls.out, Hn.out]
          have e2 : (rows ++ [(((.slice ca13 n cc13) : Value), l)]).length = rl + 1 := by rw [List.length_append, ← Hrl.out]; rfl
          rw [e1, e2]
          exact ⟨HB7.out, (Hp20.out.far hmb).far hmb⟩⟩, hmb, by
          have h9 := Nat.le_trans hbs (Nat.le_trans hL13.out.size Hpb20.out.size)
          simpa [World.setCell] using h9⟩
        have HBe := Lib.hid ((Hb2.out.mono (Nat.le_of_lt hmlt)).trans HS7.out)
        go_wp2_with fail
        go_ret
        first
          | exact Lib.hid ⟨rfl, HMe.out, HBe.out, HKe.out⟩
          | exact Lib.hid ⟨rfl, fun _ => HMe.out, fun q => absurd rfl q, HBe.out, HKe.out⟩
  · have hz2 : (e0 == 0) = false := beq_eq_false_iff_ne.2 hz
    go_wp2_with fail
    go_ret
    exact Lib.hid ⟨rfl, fun q => absurd q hz, fun _ => H.out.bel Hb2.out, Hb2.out.mono (Nat.le_of_lt hmlt), KeepM.of_below Hb2.out⟩
end Go.Proofs.Ytbnodgoccmhjkaa.Tithe
