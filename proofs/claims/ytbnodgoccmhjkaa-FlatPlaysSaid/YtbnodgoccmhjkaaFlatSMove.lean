/- The document's move: walked (printed by mksmove.py). -/
import Derived.Test.YtbnodgoccmhjkaaFlatDoc
namespace Go.Proofs.Ytbnodgoccmhjkaa.Tithe
open Go.RowKit Go.Sort Go.Shelf
set_option linter.unusedVariables false
set_option linter.unusedSimpArgs false
set_option maxRecDepth 100000
def MvEq (l : List Bo) (q q0 : Int) : Prop := mvIn l q = mvIn l q0 ∧ mvP l q = mvP l q0 ∧ mvX l q = mvX l q0
theorem MvEq.rfl' (l : List Bo) (q : Int) : MvEq l q q := ⟨rfl, rfl, rfl⟩
theorem rise_cut {p : List UInt8 → Bool} (hp : ∀ y z, leB y z = true → p y = true → p z = true) : ∀ (ks : List (List UInt8)), ks.Pairwise (fun a b => leB a b = true) → (∃ i, ks.findIdx? p = some i ∧ i < ks.length ∧ (ks.filter p).length + i = ks.length) ∨ (ks.findIdx? p = none ∧ ks.filter p = [])
  | [], _ => .inr ⟨rfl, rfl⟩
  | y :: t, h => by
    rw [List.pairwise_cons] at h
    by_cases hy : p y = true
    · refine .inl ⟨0, by rw [List.findIdx?_cons, if_pos hy], by simp, ?_⟩
      have : (y :: t).filter p = y :: t := by
        rw [List.filter_eq_self]
        intro z hz
        rcases List.mem_cons.1 hz with e | e
        · rw [e]; exact hy
        · exact hp y z (h.1 z e) hy
      rw [this]; rfl
    · have hy2 : p y = false := by simpa using hy
      rcases rise_cut hp t h.2 with ⟨i, h1, h2, h3⟩ | ⟨h1, h2⟩
      · refine .inl ⟨i + 1, by rw [List.findIdx?_cons, hy2]; simp [h1], by simp; omega, ?_⟩
        rw [List.filter_cons, hy2]
        simp only [Bool.false_eq_true, if_false, List.length_cons]
        omega
      · refine .inr ⟨by rw [List.findIdx?_cons, hy2]; simp [h1], ?_⟩
        rw [List.filter_cons, hy2]
        simpa using h2
theorem mv_five {F : FunO} {ks : List (List UInt8)} (h : KeysIs F ks) (key : ByteArray) : MvEq (outO F ks) ((ks.length : Int) - ((ks.filter (inR key ⟨#[]⟩)).length : Int)) (idxO (outO F ks) (geP key)) := by
  have he : (⟨#[]⟩ : ByteArray).toList.isEmpty = true := by rw [toList_eq]; rfl
  have hpq : ∀ y, geP key ⟨1, ba y, valO F y⟩ = inR key ⟨#[]⟩ y := fun y => by unfold geP inR; rw [he]; simp
  have hidx : (outO F ks).findIdx? (geP key) = ks.findIdx? (inR key ⟨#[]⟩) := by
    unfold outO
    rw [List.findIdx?_map]
    congr 1
    funext y
    exact hpq y
  rcases rise_cut (p := inR key ⟨#[]⟩) (fun y z h1 h2 => by
    unfold inR at h2 ⊢
    rw [he] at h2 ⊢
    simp only [Bool.true_or, Bool.and_true, Bool.not_eq_true', decide_eq_false_iff_not] at h2 ⊢
    intro h3
    exact h2 (cmpB_trans_lt ((leB_cmp y z).1 h1) h3)) ks h.up with ⟨i, h1, h2, h3⟩ | ⟨h1, h2⟩
  · have e1 : idxO (outO F ks) (geP key) = (i : Int) := by unfold idxO; rw [hidx, h1]
    have e2 : (ks.length : Int) - ((ks.filter (inR key ⟨#[]⟩)).length : Int) = (i : Int) := by omega
    rw [e1, e2]
    exact MvEq.rfl' _ _
  · have e1 : idxO (outO F ks) (geP key) = -1 := by unfold idxO; rw [hidx, h1]
    rw [e1, h2]
    have o1 := mv_out (l := outO F ks) (q := (ks.length : Int) - (([] : List (List UInt8)).length : Int)) (.inr (by rw [outO_len]; simp))
    have o2 := mv_out (l := outO F ks) (q := -1) (.inl (by omega))
    exact ⟨o1.1.trans o2.1.symm, o1.2.1.trans o2.2.1.symm, o1.2.2.trans o2.2.2.symm⟩
theorem KeptDoc.setOp {ss is_ as_ ob i : Nat} {W : World} {x : Value} {cs : Array Value} (h : W.heap[ob]? = some (.cells cs 40 (0, 0))) : KeptDoc ss is_ as_ W (W.setCell ⟨ob, i, none⟩ x) := by
  refine ⟨by rw [World.size_setCell]; exact Nat.le_refl _, fun b o hb ho => ?_⟩
  refine (Below.heap_setCell W ⟨ob, i, none⟩ x b (fun e => ?_)).trans hb
  have e2 : b = ob := e
  subst e2
  rw [h] at hb
  injection hb with hb
  subst hb
  rcases ho with ⟨cs, fr, e⟩ | ⟨cs, fr, e⟩ | ⟨cs, fr, e⟩ | ⟨cs, fr, e⟩ | ⟨⟨es, ck, e⟩, -⟩
  · exact cells_ne (by decide) e
  · exact cells_ne (by decide) e
  · exact cells_ne (by decide) e
  · exact cells_ne (by decide) e
  · cases e
theorem KeepD.new {ss is_ as_ ob i : Nat} {W U : World} {x : Value} (h : KeepD ss is_ as_ W U) (hs : W.heap.size ≤ ob) : KeepD ss is_ as_ W (U.setCell ⟨ob, i, none⟩ x) := fun b o hb h1 h2 h3 h4 =>
  (Below.heap_setCell U ⟨ob, i, none⟩ x b (fun e => by have e2 : b = ob := e; have := blk_lt hb; omega)).trans (h b o hb h1 h2 h3 h4)
theorem XS.putT {W : World} {lo base xb sb : Nat} {most : Int} {rx : List Wr} {ss is_ as_ hd : Nat} {S : Int → Option Int} {zs : Nat} {N : Int → Option Int} {zi : Nat} {T : Int → Option Int} {zt : Nat} (h : XS W lo base xb sb most rx ss is_ as_ hd S zs N zi T zt) {W' : World} {T' : Int → Option Int} {zt' : Nat} (hg : W.grownBy W' (some as_)) (hT : OwnsF snT W' as_ T' zt') : XS W' lo base xb sb most rx ss is_ as_ hd S zs N zi T' zt' := by
  have hm := h.at_.map
  have kt : ∀ X : TypeId, KeptTy X W W' := fun X => KeptTy.map hg hm
  obtain ⟨a, c, h1, h2⟩ := h.xo.ex
  exact ⟨⟨⟨a, c, kt _ _ _ _ h1, own_for h2.out (kt _), fun r hr => own_for (h2.row r hr) (kt _)⟩, h.xo.lt, Nat.le_trans h.xo.le hg.size⟩, kt _ _ _ _ h.st, h.sn.other hg (fun e => h.n2 (by injection e with e; exact e.symm)), h.it.other hg (fun e => h.n3 (by injection e with e; exact e.symm)), hT, h.n1, h.n2, h.n3, h.l1, h.l2, h.l3, h.l4, h.l5⟩
def SMoveOut (W : World) (lo base xb sb : Nat) (most : Int) (rx : List Wr) (ss is_ as_ hd : Nat) (S : Int → Option Int) (zs : Nat) (N : Int → Option Int) (zi : Nat) (T : Int → Option Int) (zt : Nat) (a : Int) (l : List Bo) (q : Int) (e : Ending) (W' : World) : Prop :=
  e = .returned (.tuple #[.agg #[.int .i64 (mvX l q).k, .string (mvX l q).u, .string (mvX l q).v], .bool (mvIn l q)]) ∧ XS W' lo base xb sb most rx ss is_ as_ hd S zs N zi (updF T a (some (mvP l q))) zt ∧ KeepD ss is_ as_ W W' ∧ Below lo W W'
theorem smove_end {W : World} {lo base xb sb : Nat} {most : Int} {rx : List Wr} {ss is_ as_ hd : Nat} {S : Int → Option Int} {zs : Nat} {N : Int → Option Int} {zi : Nat} {T : Int → Option Int} {zt : Nat} (h : XS W lo base xb sb most rx ss is_ as_ hd S zs N zi T zt) {U : World} {a : Int} {l : List Bo} {q q0 p' : Int} {x : Bo} {f : Bool} (hU : XS U lo base xb sb most rx ss is_ as_ hd S zs N zi (updF T a (some p')) zt) (hk : KeepD ss is_ as_ W U) (hb : Below lo W U) (hq : MvEq l q q0) (h1 : mvIn l q = f) (h2 : mvP l q = p') (h3 : mvX l q = x) :
    SMoveOut W lo base xb sb most rx ss is_ as_ hd S zs N zi T zt a l q0 (.returned (.tuple #[.agg #[.int .i64 x.k, .string x.u, .string x.v], .bool f])) U := by
  unfold SMoveOut
  rw [← hq.1, ← hq.2.1, ← hq.2.2, h1, h2, h3]
  exact ⟨rfl, hU, hk, hb⟩
theorem grow_over {A C : World} {b g i : Nat} {v : Value} (hg : A.grownBy C (some b)) (hm : ∃ es ck, A.heap[b]? = some (.map es ck)) (h : A.cell? ⟨g, i, none⟩ = some v) : C.cell? ⟨g, i, none⟩ = some v := by
  refine (World.cell?_of_block (hg.block g (block_lt_of_cell h) (fun e => ?_))).trans h
  injection e with e
  subst e
  obtain ⟨es, ck, hm⟩ := hm
  have : A.cell? ⟨g, i, none⟩ = none := by simp [World.cell?, hm]
  rw [h] at this
  cases this
attribute [local go_sem] Oper.semAt_some
set_option maxHeartbeats 12800000 in
theorem smove_any {W : World} {lo base xb sb : Nat} {most : Int} {rx : List Wr} {ss is_ as_ hd : Nat} {S : Int → Option Int} {zs : Nat} {N : Int → Option Int} {zi : Nat} {T : Int → Option Int} {zt : Nat} (h : XS W lo base xb sb most rx ss is_ as_ hd S zs N zi T zt) (kind a how : Int) (key to : ByteArray) (oa : Option Addr) (on oc : Nat) (n : Nat) (p : Int) (ks : List (List UInt8)) (hw : (Lit.int .i64 a).wf = true) (hN : N a = some (n : Int)) (hT : T a = some p) (hks : KeysIs (foldF ((opsOf rx).take n).flatten) ks) (hkl : ks.length ≤ 100000) (hp : -1 ≤ p ∧ p < (ks.length : Int)) (hhow : 1 ≤ how ∧ how ≤ 5) (hkey : key.size ≤ maxLen)
    (hrl : rx.length ≤ 100000) (hfl : ((opsOf rx).take n).flatten.length ≤ 100000) (hsm : ∀ o ∈ ((opsOf rx).take n).flatten, o.u.size ≤ 100000) (hlo : lo ≤ W.heap.size) (hzt : zt ≤ 100000) :
    Calls Try.prog 42 #[.pointer (some ⟨sb, 0, none⟩), .pointer (some ⟨xb, 0, none⟩), .agg #[.int .i64 kind, .int .i64 a, .int .i64 how, .string key, .string to, .slice oa on oc]] W (SMoveOut W lo base xb sb most rx ss is_ as_ hd S zs N zi T zt a (outO (foldF ((opsOf rx).take n).flatten) ks) (mvQ (outO (foldF ((opsOf rx).take n).flatten) ks) how p key)) := by
  obtain ⟨W1, hW1⟩ : ∃ V, V = (W.alloc (.cells #[.int .i64 kind, .int .i64 a, .int .i64 how, .string key, .string to, .slice oa on oc] 64)).alloc (.cells #[.int .i64 0, .string ⟨#[]⟩, .string ⟨#[]⟩] 40) := ⟨_, rfl⟩
  have hb1 : Below W.heap.size W W1 := by rw [hW1]; exact ((Below.refl _ _).alloc (Nat.le_refl _) _).alloc (by simp) _
  have hc1 : W1.heap[W.heap.size]? = some (.cells #[.int .i64 kind, .int .i64 a, .int .i64 how, .string key, .string to, .slice oa on oc] 64 (0, 0)) := by rw [hW1]; exact blk_old (blk_newF rfl _) _
  have hz1 : W1.heap[W.heap.size + 1]? = some (.cells #[.int .i64 0, .string ⟨#[]⟩, .string ⟨#[]⟩] 40 (0, 0)) := by rw [hW1]; exact blk_newF (by simp only [World.size_alloc]) _
  obtain ⟨F, hF⟩ : ∃ F, F = foldF ((opsOf rx).take n).flatten := ⟨_, rfl⟩
  have hx1 := h.bel hb1
  obtain ⟨xa, xc, hX, hXo⟩ := hx1.xo.ex
  have hke := fun (A : World) (hA : Below W1.heap.size W1 A) => keys_any xb _ most rx (n : Int) A (blk_bels hA hX) (hXo.isWs.below hA) (by omega) (by rw [Int.toNat_natCast]; exact hfl) (by rw [Int.toNat_natCast]; exact hsm)
  have hfi : ∀ (u : ByteArray) (A : World), IsXo A base xb most rx → Calls Try.prog 11 #[.pointer (some ⟨xb, 0, none⟩), .int .i64 n, .string u] A fun e w' => e = .returned (.tuple #[.string (findL u ((opsOf rx).take ((n : Nat) : Int).toNat).flatten).1, .bool (findL u ((opsOf rx).take ((n : Nat) : Int).toNat).flatten).2]) ∧ Below A.heap.size A w' := fun u A hA => by
    obtain ⟨xa2, xc2, hX2, hXo2⟩ := hA.ex
    exact find_any xb _ most rx (n : Int) u A hX2 hXo2.isWs (by omega)
  rw [Int.toNat_natCast, ← hF] at hke
  rw [Int.toNat_natCast] at hfi
  obtain ⟨all, hall⟩ : ∃ all, all = ((opsOf rx).take n).flatten := ⟨_, rfl⟩
  rw [← hall] at hfi hF
  rw [← hall, ← hF] at hks ⊢
  have hli := fun (A : World) (hA : XS A lo base xb sb most rx ss is_ as_ hd S zs N zi T zt) => hA.it.look a hw
  have hlt := fun (A : World) (hA : XS A lo base xb sb most rx ss is_ as_ hd S zs N zi T zt) => hA.at_.look a hw
  rw [hN] at hli
  rw [hT] at hlt
  have Hli : Hid (∀ A : World, Below W1.heap.size W1 A → (Instr.lookup 60 (.map (some is_)) (.int .i64 a) false).run Try.prog A = .ok (.int .i64 n) A) := Lib.hid (fun A hA => hli A (hx1.bel hA))
  have Hlt : Hid (∀ A : World, Below W1.heap.size W1 A → (Instr.lookup 60 (.map (some as_)) (.int .i64 a) false).run Try.prog A = .ok (.int .i64 p) A) := Lib.hid (fun A hA => hlt A (hx1.bel hA))
  have Hli2 : Hid (∀ A : World, OwnsF snT A is_ N zi → (Instr.lookup 60 (.map (some is_)) (.int .i64 a) false).run Try.prog A = .ok (.int .i64 n) A) := Lib.hid (fun A hA => by have := hA.look a hw; rw [hN] at this; exact this)
  have Hke := Lib.hid hke
  have Hfi := Lib.hid hfi
  have HF := Lib.hid hF
  have HT := Lib.hid hT
  have Hw := Lib.hid hw
  have Hks := Lib.hid hks
  have HX := Lib.hid h
  have HX1 := Lib.hid hx1
  have HW1 := Lib.hid hW1
  have Hc1 := Lib.hid hc1
  have Hz1 := Lib.hid hz1
  have Hb1 := Lib.hid hb1
  have Hlo := Lib.hid hlo
  have Hky := Lib.hid hkey
  have s1 := (cell_of_blk hx1.st 1).trans (show _ = some (.map (some is_)) from rfl)
  have s2 := (cell_of_blk hx1.st 2).trans (show _ = some (.map (some as_)) from rfl)
  have k1 := (cell_of_blk hc1 1).trans (show _ = some (.int .i64 a) from rfl)
  clear h hks hN hT hw hkey hW1 hb1 hc1 hz1 hx1 hX hXo hke hfi hF hall hli hlt hlo hfl hsm
  go_enter Try.func42, Try.ntmps42
  go_upto_region 1 with fail
  rw [← HW1.out]
  refine wp_region_held_drew (S := fun V' => Hid (Below W1.heap.size W1 V')) (by kernel_rfl) (Lib.hid ((Below.refl _ _).drew)) (fun hS0 => ?_)
  refine wpAnyH_take (i := 0) (oi := { dst := some 12, op := Op.move (Operand.tmp 1), type := 26, pos := "law.go:143", after := #[], guard := none }) (v := ?_) rfl (by kernel_rfl) (by kernel_rfl) (by kernel_rfl) (fun _ _ _ h => h) (Or.inl ⟨by rfl, ?hy1⟩) hS0 ?_
  case hy1 => (intro V hSw; (try dsimp only at hSw); clear hSw; go_simp; try with_reducible rfl)
  try simp only [Act.put, List.setIfInBounds_toArray, List.set_cons_zero, List.set_cons_succ]
  refine wpAnyH_take (i := 1) (oi := { dst := some 13, op := Op.move (Operand.tmp 0), type := 59, pos := "law.go:143", after := #[], guard := none }) (v := ?_) rfl (by kernel_rfl) (by kernel_rfl) (by kernel_rfl) (fun _ _ _ h => h) (Or.inl ⟨by rfl, ?hy2⟩) hS0 ?_
  case hy2 => (intro V hSw; (try dsimp only at hSw); clear hSw; go_simp; try with_reducible rfl)
  try simp only [Act.put, List.setIfInBounds_toArray, List.set_cons_zero, List.set_cons_succ]
  refine wpAnyH_take (i := 2) (oi := { dst := some 14, op := Op.nilCheck (Operand.tmp 13), type := 0, pos := "law.go:143", after := #[{ on := 1, ground := Ground.data }], guard := none }) (v := ?_) rfl (by kernel_rfl) (by kernel_rfl) (by kernel_rfl) (fun _ _ _ h => h) (Or.inl ⟨by rfl, ?hy3⟩) hS0 ?_
  case hy3 => (intro V hSw; (try dsimp only at hSw); clear hSw; go_simp; try with_reducible rfl)
  try simp only [Act.put, List.setIfInBounds_toArray, List.set_cons_zero, List.set_cons_succ]
  refine wpAnyH_take (i := 3) (oi := { dst := some 15, op := Op.fieldAddr 62 (Operand.tmp 14) 1, type := 0, pos := "law.go:143", after := #[{ on := 2, ground := Ground.data }], guard := none }) (v := ?_) rfl (by kernel_rfl) (by kernel_rfl) (by kernel_rfl) (fun _ _ _ h => h) (Or.inl ⟨by rfl, ?hy4⟩) hS0 ?_
  case hy4 => (intro V hSw; (try dsimp only at hSw); clear hSw; go_simp; try with_reducible rfl)
  try simp only [Act.put, List.setIfInBounds_toArray, List.set_cons_zero, List.set_cons_succ]
  refine wpAnyH_take (i := 4) (oi := { dst := some 16, op := Op.load 60 (Operand.tmp 15), type := 60, pos := "law.go:143", after := #[{ on := 3, ground := Ground.data }], guard := none }) (v := ?_) rfl (by kernel_rfl) (by kernel_rfl) (by kernel_rfl) (fun _ _ _ h => h) (Or.inl ⟨by rfl, ?hy5⟩) hS0 ?_
  case hy5 => (intro V hSw; (try dsimp only at hSw); have q0 := grow_cellO hSw.out (block_lt_of_cell s1) s1; have q1 := grow_cellO hSw.out (block_lt_of_cell k1) k1; have ql0 := Hli.out _ hSw.out; clear hSw; go_simp; try with_reducible rfl)
  try simp only [Act.put, List.setIfInBounds_toArray, List.set_cons_zero, List.set_cons_succ]
  refine wpAnyH_take (i := 5) (oi := { dst := some 17, op := Op.fieldAddr 64 (Operand.tmp 5) 1, type := 0, pos := "law.go:143", after := #[], guard := none }) (v := ?_) rfl (by kernel_rfl) (by kernel_rfl) (by kernel_rfl) (fun _ _ _ h => h) (Or.inl ⟨by rfl, ?hy6⟩) hS0 ?_
  case hy6 => (intro V hSw; (try dsimp only at hSw); clear hSw; go_simp; try with_reducible rfl)
  try simp only [Act.put, List.setIfInBounds_toArray, List.set_cons_zero, List.set_cons_succ]
  refine wpAnyH_take (i := 6) (oi := { dst := some 18, op := Op.load 3 (Operand.tmp 17), type := 3, pos := "law.go:143", after := #[{ on := 5, ground := Ground.data }], guard := none }) (v := ?_) rfl (by kernel_rfl) (by kernel_rfl) (by kernel_rfl) (fun _ _ _ h => h) (Or.inl ⟨by rfl, ?hy7⟩) hS0 ?_
  case hy7 => (intro V hSw; (try dsimp only at hSw); have q0 := grow_cellO hSw.out (block_lt_of_cell s1) s1; have q1 := grow_cellO hSw.out (block_lt_of_cell k1) k1; have ql0 := Hli.out _ hSw.out; clear hSw; go_simp; try with_reducible rfl)
  try simp only [Act.put, List.setIfInBounds_toArray, List.set_cons_zero, List.set_cons_succ]
  refine wpAnyH_take (i := 7) (oi := { dst := some 19, op := Op.lookup 60 (Operand.tmp 16) (Operand.tmp 18) false, type := 3, pos := "law.go:143", after := #[{ on := 4, ground := Ground.data }, { on := 6, ground := Ground.data }], guard := none }) (v := ?_) rfl (by kernel_rfl) (by kernel_rfl) (by kernel_rfl) (fun _ _ _ h => h) (Or.inl ⟨by rfl, ?hy8⟩) hS0 ?_
  case hy8 => (intro V hSw; (try dsimp only at hSw); have q0 := grow_cellO hSw.out (block_lt_of_cell s1) s1; have q1 := grow_cellO hSw.out (block_lt_of_cell k1) k1; have ql0 := Hli.out _ hSw.out; clear hSw; go_simp; try with_reducible rfl)
  try simp only [Act.put, List.setIfInBounds_toArray, List.set_cons_zero, List.set_cons_succ]
  refine wpAnyH_ready (rs := [8]) (by kernel_rfl) (by simp) (AllReadyH.cons rfl (fun K hK => ?_) AllReadyH.nil)
  go_simp
  refine (Hke.out _ hS0.out).mono ?_
  rintro e wv9 ⟨vk, kt, rfl, hkt, -, hst, hv9⟩
  obtain rfl : ks = kt := keys_uniq Hks.out hkt
  obtain ⟨va, vc, rfl⟩ := own_slice hst
  have hS9 := Lib.hid (hS0.out.trans (hv9.mono hS0.out.size))
  have Hst := Lib.hid hst
  clear hv9 hst hkt
  refine hK.out _ _ hS9 (fun _ => ?_)
  clear hK K
  try simp only [Act.put, List.setIfInBounds_toArray, List.set_cons_zero, List.set_cons_succ]
  refine wpAnyH_ready (rs := [9]) (by kernel_rfl) (by simp) (AllReadyH.cons rfl (fun K hK => ?_) AllReadyH.nil)
  go_simp
  refine hK.out _ _ hS9 (fun _ => ?_)
  clear hK K
  try simp only [Act.put, List.setIfInBounds_toArray, List.set_cons_zero, List.set_cons_succ]
  refine wpAnyH_done (by kernel_rfl) ?_ _
  obtain ⟨kn, hkn⟩ : ∃ q, q = ks.length := ⟨_, rfl⟩
  rw [← hkn] at hkl hp Hst ⊢
  have Hkn := Lib.hid hkn
  obtain ⟨U, hU⟩ : ∃ U, U = wv9 := ⟨_, rfl⟩
  have HbU : Hid (Below W1.heap.size W1 U) := Lib.hid (by rw [hU]; exact hS9.out)
  rw [← hU] at Hst ⊢
  clear hkn hU s1 s2 k1
  have HXU := Lib.hid (HX1.out.bel HbU.out)
  have HcU := Lib.hid (blk_bels HbU.out Hc1.out)
  have HzU := Lib.hid (blk_bels HbU.out Hz1.out)
  have HbWU := Lib.hid (Hb1.out.trans (HbU.out.mono Hb1.out.size))
  have HstU := Hst
  have u2 := (cell_of_blk HXU.out.st 2).trans (show _ = some (.map (some as_)) from rfl)
  have v1 := (cell_of_blk HcU.out 1).trans (show _ = some (.int .i64 a) from rfl)
  have Hl2 := Lib.hid (fun (A : World) (hA : Below U.heap.size U A) => Hlt.out A (HbU.out.trans (hA.mono HbU.out.size)))
  clear HbU Hst hS0
  go_upto_region 2 with fail
  refine wp_region_held_drew (S := fun V' => Hid (Below U.heap.size U V')) (by kernel_rfl) (Lib.hid ((Below.refl _ _).drew)) (fun hS0 => ?_)
  refine wpAnyH_take (i := 0) (oi := { dst := some 21, op := Op.move (Operand.tmp 0), type := 59, pos := "law.go:144", after := #[], guard := none }) (v := ?_) rfl (by kernel_rfl) (by kernel_rfl) (by kernel_rfl) (fun _ _ _ h => h) (Or.inl ⟨by rfl, ?hy10⟩) hS0 ?_
  case hy10 => (intro V hSw; (try dsimp only at hSw); clear hSw; go_simp; try with_reducible rfl)
  try simp only [Act.put, List.setIfInBounds_toArray, List.set_cons_zero, List.set_cons_succ]
  refine wpAnyH_take (i := 1) (oi := { dst := some 22, op := Op.nilCheck (Operand.tmp 21), type := 0, pos := "law.go:144", after := #[{ on := 0, ground := Ground.data }], guard := none }) (v := ?_) rfl (by kernel_rfl) (by kernel_rfl) (by kernel_rfl) (fun _ _ _ h => h) (Or.inl ⟨by rfl, ?hy11⟩) hS0 ?_
  case hy11 => (intro V hSw; (try dsimp only at hSw); clear hSw; go_simp; try with_reducible rfl)
  try simp only [Act.put, List.setIfInBounds_toArray, List.set_cons_zero, List.set_cons_succ]
  refine wpAnyH_take (i := 2) (oi := { dst := some 23, op := Op.fieldAddr 62 (Operand.tmp 22) 2, type := 0, pos := "law.go:144", after := #[{ on := 1, ground := Ground.data }], guard := none }) (v := ?_) rfl (by kernel_rfl) (by kernel_rfl) (by kernel_rfl) (fun _ _ _ h => h) (Or.inl ⟨by rfl, ?hy12⟩) hS0 ?_
  case hy12 => (intro V hSw; (try dsimp only at hSw); clear hSw; go_simp; try with_reducible rfl)
  try simp only [Act.put, List.setIfInBounds_toArray, List.set_cons_zero, List.set_cons_succ]
  refine wpAnyH_take (i := 3) (oi := { dst := some 24, op := Op.load 60 (Operand.tmp 23), type := 60, pos := "law.go:144", after := #[{ on := 2, ground := Ground.data }], guard := none }) (v := ?_) rfl (by kernel_rfl) (by kernel_rfl) (by kernel_rfl) (fun _ _ _ h => h) (Or.inl ⟨by rfl, ?hy13⟩) hS0 ?_
  case hy13 => (intro V hSw; (try dsimp only at hSw); have q0 := grow_cellO hSw.out (block_lt_of_cell u2) u2; have q1 := grow_cellO hSw.out (block_lt_of_cell v1) v1; have ql0 := Hl2.out _ hSw.out; clear hSw; go_simp; try with_reducible rfl)
  try simp only [Act.put, List.setIfInBounds_toArray, List.set_cons_zero, List.set_cons_succ]
  refine wpAnyH_take (i := 4) (oi := { dst := some 25, op := Op.fieldAddr 64 (Operand.tmp 5) 1, type := 0, pos := "law.go:144", after := #[], guard := none }) (v := ?_) rfl (by kernel_rfl) (by kernel_rfl) (by kernel_rfl) (fun _ _ _ h => h) (Or.inl ⟨by rfl, ?hy14⟩) hS0 ?_
  case hy14 => (intro V hSw; (try dsimp only at hSw); clear hSw; go_simp; try with_reducible rfl)
  try simp only [Act.put, List.setIfInBounds_toArray, List.set_cons_zero, List.set_cons_succ]
  refine wpAnyH_take (i := 5) (oi := { dst := some 26, op := Op.load 3 (Operand.tmp 25), type := 3, pos := "law.go:144", after := #[{ on := 4, ground := Ground.data }], guard := none }) (v := ?_) rfl (by kernel_rfl) (by kernel_rfl) (by kernel_rfl) (fun _ _ _ h => h) (Or.inl ⟨by rfl, ?hy15⟩) hS0 ?_
  case hy15 => (intro V hSw; (try dsimp only at hSw); have q0 := grow_cellO hSw.out (block_lt_of_cell u2) u2; have q1 := grow_cellO hSw.out (block_lt_of_cell v1) v1; have ql0 := Hl2.out _ hSw.out; clear hSw; go_simp; try with_reducible rfl)
  try simp only [Act.put, List.setIfInBounds_toArray, List.set_cons_zero, List.set_cons_succ]
  refine wpAnyH_take (i := 6) (oi := { dst := some 27, op := Op.lookup 60 (Operand.tmp 24) (Operand.tmp 26) false, type := 3, pos := "law.go:144", after := #[{ on := 3, ground := Ground.data }, { on := 5, ground := Ground.data }], guard := none }) (v := ?_) rfl (by kernel_rfl) (by kernel_rfl) (by kernel_rfl) (fun _ _ _ h => h) (Or.inl ⟨by rfl, ?hy16⟩) hS0 ?_
  case hy16 => (intro V hSw; (try dsimp only at hSw); have q0 := grow_cellO hSw.out (block_lt_of_cell u2) u2; have q1 := grow_cellO hSw.out (block_lt_of_cell v1) v1; have ql0 := Hl2.out _ hSw.out; clear hSw; go_simp; try with_reducible rfl)
  try simp only [Act.put, List.setIfInBounds_toArray, List.set_cons_zero, List.set_cons_succ]
  refine wpAnyH_ready (rs := [7]) (by kernel_rfl) (by simp) (AllReadyH.cons rfl (fun K hK => ?_) AllReadyH.nil)
  go_simp
  refine hK.out _ _ hS0 (fun _ => ?_)
  clear hK K
  try simp only [Act.put, List.setIfInBounds_toArray, List.set_cons_zero, List.set_cons_succ]
  refine wpAnyH_done (by kernel_rfl) ?_ _
  have HXX := Lib.hid (HXU.out.bel hS0.out)
  have HcX := Lib.hid (blk_bels hS0.out HcU.out)
  have HzX := Lib.hid (blk_bels hS0.out HzU.out)
  have HbX := Lib.hid (HbWU.out.trans (hS0.out.mono HbWU.out.size))
  have HkX := Lib.hid (KeepD.of_below (ss := ss) (is_ := is_) (as_ := as_) HbX.out)
  have HstX := Lib.hid (HstU.out.below hS0.out)
  clear hS0 u2 v1
  generalize U.drew = X at *
  have kk1 := (cell_of_blk HcX.out 1).trans (show _ = some (.int .i64 a) from rfl)
  have kk2 := (cell_of_blk HcX.out 2).trans (show _ = some (.int .i64 how) from rfl)
  have kk3 := (cell_of_blk HcX.out 3).trans (show _ = some (.string key) from rfl)
  clear HXU HcU HzU HbWU HstU
  have hcs : how = 1 ∨ how = 2 ∨ how = 3 ∨ how = 4 ∨ how = 5 := by omega
  clear hhow
  rcases hcs with rfl | rfl | rfl | rfl | rfl
  · -- how = 1
    skip
    skip
    have Hq : Hid (MvEq (outO F ks) ((0 : Int)) (mvQ (outO F ks) 1 p key)) := Lib.hid (MvEq.rfl' _ _)
    go_upto_region 13 with fail
    by_cases hqn : (kn : Int) ≤ (0 : Int)
    · have Hmv := Lib.hid (mv_out (l := outO F ks) (q := (0 : Int)) (.inr (by rw [outO_len, ← Hkn.out]; exact hqn)))
      go_upto_region 14 with fail
      have sX2 := (cell_of_blk HXX.out.st 2).trans (show _ = some (.map (some as_)) from rfl)
      have kX1 := (cell_of_blk HcX.out 1).trans (show _ = some (.int .i64 a) from rfl)
      obtain ⟨W2, hput, hT2, hg2⟩ := (show OwnsF snT X.drew as_ T zt from HXX.out.at_.of_blk rfl).put a (-1) Hw.out (show (Lit.int .i64 (-1)).wf = true by decide) (by unfold maxLen; omega)
      rw [HT.out] at hT2
      have hg2' : X.grownBy W2 (some as_) := ⟨hg2.os, hg2.tape, hg2.output, hg2.size, hg2.block⟩
      have hmap := HXX.out.at_.map
      have hlx : lo ≤ X.heap.size := Nat.le_trans Hlo.out HbX.out.size
      have HX2 : Hid (XS W2 lo base xb sb most rx ss is_ as_ hd S zs N zi (updF T a (some (-1))) zt) := Lib.hid (HXX.out.putT hg2' hT2)
      have Hk2 := Lib.hid (HkX.out.trans (KeepD.map (ss := ss) (is_ := is_) hg2' hmap (.inr (.inr rfl))))
      have Hb2 := Lib.hid ((HbX.out.mono Hlo.out).trans (grown_below hg2' HXX.out.l3 hlx))
      have Hc2 := Lib.hid (KeptTy.map hg2' hmap _ _ _ HcX.out)
      have Hz2 := Lib.hid (KeptTy.map hg2' hmap _ _ _ HzX.out)
      have Hw2 := Lib.hid (Nat.le_trans HbX.out.size hg2'.size)
      clear hT2 hg2 hg2' hmap hlx
      go_still_tail 6, (by kernel_rfl)
      change wpList _ _ _ _ _ X.drew
      refine wpList_mapput rfl _ _ _ _ rfl rfl rfl rfl hput ?_
      clear hput sX2 kX1
      have HzE := Hz2
      have HXE := HX2
      have HkE := Hk2
      have HbE := Hb2
      have z0 := (cell_of_blk HzE.out 0).trans (show _ = some (.int .i64 0) from rfl)
      have z1 := (cell_of_blk HzE.out 1).trans (show _ = some (.string ⟨#[]⟩) from rfl)
      have z2 := (cell_of_blk HzE.out 2).trans (show _ = some (.string ⟨#[]⟩) from rfl)
      have f0 := frozen_of_blk HzE.out 0
      have f1 := frozen_of_blk HzE.out 1
      have f2 := frozen_of_blk HzE.out 2
      have g1 : ((W2.setCell ⟨W.heap.size + 1, 0, none⟩ (.int .i64 0)).heap[W.heap.size + 1]? = some (.cells #[.int .i64 0, .string ⟨#[]⟩, .string ⟨#[]⟩] 40 (0, 0))) := (blk_set HzE.out).trans rfl
      have g2 : (((W2.setCell ⟨W.heap.size + 1, 0, none⟩ (.int .i64 0)).setCell ⟨W.heap.size + 1, 1, none⟩ (.string ⟨#[]⟩)).heap[W.heap.size + 1]? = some (.cells #[.int .i64 0, .string ⟨#[]⟩, .string ⟨#[]⟩] 40 (0, 0))) := (blk_set g1).trans rfl
      have hfx := ((HXE.out.for (KeptDoc.setOp (i := 0) (x := .int .i64 0) HzE.out)).for (KeptDoc.setOp (i := 1) (x := .string ⟨#[]⟩) g1)).for (KeptDoc.setOp (i := 2) (x := .string ⟨#[]⟩) g2)
      have hfk := ((HkE.out.new (i := 0) (x := .int .i64 0) (Nat.le_succ W.heap.size)).new (i := 1) (x := .string ⟨#[]⟩) (Nat.le_succ W.heap.size)).new (i := 2) (x := .string ⟨#[]⟩) (Nat.le_succ W.heap.size)
      have hlz : lo ≤ W.heap.size + 1 := Nat.le_succ_of_le Hlo.out
      have hfb := ((HbE.out.setCell (p := ⟨W.heap.size + 1, 0, none⟩) hlz (.int .i64 0)).setCell (p := ⟨W.heap.size + 1, 1, none⟩) hlz (.string ⟨#[]⟩)).setCell (p := ⟨W.heap.size + 1, 2, none⟩) hlz (.string ⟨#[]⟩)
      have Fin := Lib.hid (smove_end (T := T) (zt := zt) HX.out hfx hfk hfb Hq.out Hmv.out.1 Hmv.out.2.1 Hmv.out.2.2)
      clear g1 g2 hfx hfk hfb hlz
      go_wp2_with fail
      refine bodyPost_ret (v := .tuple #[.agg #[.int .i64 0, .string ⟨#[]⟩, .string ⟨#[]⟩], .bool false]) (by simp [results, Try.results42, go_sem, z0, z1, z2]) rfl ?_
      exact Fin.out
    · have hik : 0 < kn := by omega
      obtain ⟨y, hy⟩ : ∃ y, ks[0]? = some y := ⟨_, List.getElem?_eq_getElem (by rw [← Hkn.out]; exact hik)⟩
      have hmv := mv_in (l := outO F ks) (i := 0) (outO_at (F := F) hy)
      have hsome := (Hks.out.iff y (Hks.out.le y (List.mem_of_getElem? hy))).1 (List.mem_of_getElem? hy)
      have hvy : valO F y = (findL (ba y) all).1 := by
        unfold valO
        rw [HF.out, foldF_is] at hsome ⊢
        cases q : (findL (ba y) all).2 with
        | true => rw [if_pos rfl]; rfl
        | false => rw [q] at hsome; cases hsome
      obtain ⟨g, rfl, hgl, hce⟩ := own_str (by have := HstX.out; unfold OwnSt at this; rw [← Hkn.out] at this; exact this) Hkn.out.symm (by omega)
      have e00 := hce 0 y hy
      obtain ⟨u, hu⟩ : ∃ u, u = ba y := ⟨_, rfl⟩
      obtain ⟨⟨vv, isb⟩, hvv⟩ : ∃ r, r = findL u all := ⟨_, rfl⟩
      rw [← hu] at e00
      have Hmv : Hid (mvIn (outO F ks) (0 : Int) = true ∧ mvP (outO F ks) (0 : Int) = (0 : Int) ∧ mvX (outO F ks) (0 : Int) = ⟨1, ba y, valO F y⟩) := Lib.hid hmv
      have Hmx : Hid (mvX (outO F ks) (0 : Int) = ⟨1, u, vv⟩) := Lib.hid (by rw [Hmv.out.2.2, hvy, ← hu, ← hvv])
      have Hvv := Lib.hid hvv
      have hki : ((0 : Nat) : Int) ≤ (0 : Int) ∧ (0 : Int) < (kn : Int) := by omega
      clear hmv hsome hvy hu hvv hce hy
      go_upto_region 16 with fail
      have sX2 := (cell_of_blk HXX.out.st 2).trans (show _ = some (.map (some as_)) from rfl)
      have kX1 := (cell_of_blk HcX.out 1).trans (show _ = some (.int .i64 a) from rfl)
      obtain ⟨W2, hput, hT2, hg2⟩ := (show OwnsF snT X.drew as_ T zt from HXX.out.at_.of_blk rfl).put a ((0 : Int)) Hw.out (WalkArith.wf_i64 (by omega)) (by unfold maxLen; omega)
      rw [HT.out] at hT2
      have hg2' : X.grownBy W2 (some as_) := ⟨hg2.os, hg2.tape, hg2.output, hg2.size, hg2.block⟩
      have hmap := HXX.out.at_.map
      have hlx : lo ≤ X.heap.size := Nat.le_trans Hlo.out HbX.out.size
      have HX2 : Hid (XS W2 lo base xb sb most rx ss is_ as_ hd S zs N zi (updF T a (some ((0 : Int)))) zt) := Lib.hid (HXX.out.putT hg2' hT2)
      have Hk2 := Lib.hid (HkX.out.trans (KeepD.map (ss := ss) (is_ := is_) hg2' hmap (.inr (.inr rfl))))
      have Hb2 := Lib.hid ((HbX.out.mono Hlo.out).trans (grown_below hg2' HXX.out.l3 hlx))
      have Hc2 := Lib.hid (KeptTy.map hg2' hmap _ _ _ HcX.out)
      have Hz2 := Lib.hid (KeptTy.map hg2' hmap _ _ _ HzX.out)
      have Hw2 := Lib.hid (Nat.le_trans HbX.out.size hg2'.size)
      have e0 : W2.cell? ⟨g, 0, none⟩ = some (.string u) := grow_over hg2' hmap e00
      clear hT2 hg2 hg2' hmap hlx
      go_still_tail 7, (by kernel_rfl)
      change wpList _ _ _ _ _ X.drew
      refine wpList_mapput rfl _ _ _ _ rfl rfl rfl rfl hput ?_
      clear hput sX2 kX1 e00
      go_upto_region 17 with fail
      have s17 := (cell_of_blk HX2.out.st 1).trans (show _ = some (.map (some is_)) from rfl)
      have k17 := (cell_of_blk Hc2.out 1).trans (show _ = some (.int .i64 a) from rfl)
      have Hl17 := Lib.hid (fun (A : World) (hA : Below W2.heap.size W2 A) => Hli2.out A (HX2.out.it.below hA))
      have Hfi0 := Lib.hid (fun (A : World) (hA : Below W2.heap.size W2 A) => Hfi.out u A (HX2.out.xo.bel hA))
      rw [← Hvv.out] at Hfi0
      refine wp_region_held_drew (S := fun V' => Hid (Below W2.heap.size W2 V')) (by kernel_rfl) (Lib.hid ((Below.refl _ _).drew)) (fun hS0 => ?_)
      refine wpAnyH_take (i := 0) (oi := { dst := some 94, op := Op.move (Operand.tmp 1), type := 26, pos := "law.go:162", after := #[], guard := none }) (v := ?_) rfl (by kernel_rfl) (by kernel_rfl) (by kernel_rfl) (fun _ _ _ h => h) (Or.inl ⟨by rfl, ?hy17⟩) hS0 ?_
      case hy17 => (intro V hSw; (try dsimp only at hSw); clear hSw; go_simp; try with_reducible rfl)
      try simp only [Act.put, List.setIfInBounds_toArray, List.set_cons_zero, List.set_cons_succ]
      refine wpAnyH_take (i := 1) (oi := { dst := some 95, op := Op.move (Operand.tmp 0), type := 59, pos := "law.go:162", after := #[], guard := none }) (v := ?_) rfl (by kernel_rfl) (by kernel_rfl) (by kernel_rfl) (fun _ _ _ h => h) (Or.inl ⟨by rfl, ?hy18⟩) hS0 ?_
      case hy18 => (intro V hSw; (try dsimp only at hSw); clear hSw; go_simp; try with_reducible rfl)
      try simp only [Act.put, List.setIfInBounds_toArray, List.set_cons_zero, List.set_cons_succ]
      refine wpAnyH_take (i := 2) (oi := { dst := some 96, op := Op.nilCheck (Operand.tmp 95), type := 0, pos := "law.go:162", after := #[{ on := 1, ground := Ground.data }], guard := none }) (v := ?_) rfl (by kernel_rfl) (by kernel_rfl) (by kernel_rfl) (fun _ _ _ h => h) (Or.inl ⟨by rfl, ?hy19⟩) hS0 ?_
      case hy19 => (intro V hSw; (try dsimp only at hSw); clear hSw; go_simp; try with_reducible rfl)
      try simp only [Act.put, List.setIfInBounds_toArray, List.set_cons_zero, List.set_cons_succ]
      refine wpAnyH_take (i := 3) (oi := { dst := some 97, op := Op.fieldAddr 62 (Operand.tmp 96) 1, type := 0, pos := "law.go:162", after := #[{ on := 2, ground := Ground.data }], guard := none }) (v := ?_) rfl (by kernel_rfl) (by kernel_rfl) (by kernel_rfl) (fun _ _ _ h => h) (Or.inl ⟨by rfl, ?hy20⟩) hS0 ?_
      case hy20 => (intro V hSw; (try dsimp only at hSw); clear hSw; go_simp; try with_reducible rfl)
      try simp only [Act.put, List.setIfInBounds_toArray, List.set_cons_zero, List.set_cons_succ]
      refine wpAnyH_take (i := 4) (oi := { dst := some 98, op := Op.load 60 (Operand.tmp 97), type := 60, pos := "law.go:162", after := #[{ on := 3, ground := Ground.data }], guard := none }) (v := ?_) rfl (by kernel_rfl) (by kernel_rfl) (by kernel_rfl) (fun _ _ _ h => h) (Or.inl ⟨by rfl, ?hy21⟩) hS0 ?_
      case hy21 => (intro V hSw; (try dsimp only at hSw); have q0 := grow_cellO hSw.out (block_lt_of_cell s17) s17; have q1 := grow_cellO hSw.out (block_lt_of_cell k17) k17; have q2 := grow_cellO hSw.out (block_lt_of_cell e0) e0; have ql0 := Hl17.out _ hSw.out; clear hSw; go_simp; try with_reducible rfl)
      try simp only [Act.put, List.setIfInBounds_toArray, List.set_cons_zero, List.set_cons_succ]
      refine wpAnyH_take (i := 5) (oi := { dst := some 99, op := Op.fieldAddr 64 (Operand.tmp 5) 1, type := 0, pos := "law.go:162", after := #[], guard := none }) (v := ?_) rfl (by kernel_rfl) (by kernel_rfl) (by kernel_rfl) (fun _ _ _ h => h) (Or.inl ⟨by rfl, ?hy22⟩) hS0 ?_
      case hy22 => (intro V hSw; (try dsimp only at hSw); clear hSw; go_simp; try with_reducible rfl)
      try simp only [Act.put, List.setIfInBounds_toArray, List.set_cons_zero, List.set_cons_succ]
      refine wpAnyH_take (i := 6) (oi := { dst := some 100, op := Op.load 3 (Operand.tmp 99), type := 3, pos := "law.go:162", after := #[{ on := 5, ground := Ground.data }], guard := none }) (v := ?_) rfl (by kernel_rfl) (by kernel_rfl) (by kernel_rfl) (fun _ _ _ h => h) (Or.inl ⟨by rfl, ?hy23⟩) hS0 ?_
      case hy23 => (intro V hSw; (try dsimp only at hSw); have q0 := grow_cellO hSw.out (block_lt_of_cell s17) s17; have q1 := grow_cellO hSw.out (block_lt_of_cell k17) k17; have q2 := grow_cellO hSw.out (block_lt_of_cell e0) e0; have ql0 := Hl17.out _ hSw.out; clear hSw; go_simp; try with_reducible rfl)
      try simp only [Act.put, List.setIfInBounds_toArray, List.set_cons_zero, List.set_cons_succ]
      refine wpAnyH_take (i := 7) (oi := { dst := some 101, op := Op.lookup 60 (Operand.tmp 98) (Operand.tmp 100) false, type := 3, pos := "law.go:162", after := #[{ on := 4, ground := Ground.data }, { on := 6, ground := Ground.data }], guard := none }) (v := ?_) rfl (by kernel_rfl) (by kernel_rfl) (by kernel_rfl) (fun _ _ _ h => h) (Or.inl ⟨by rfl, ?hy24⟩) hS0 ?_
      case hy24 => (intro V hSw; (try dsimp only at hSw); have q0 := grow_cellO hSw.out (block_lt_of_cell s17) s17; have q1 := grow_cellO hSw.out (block_lt_of_cell k17) k17; have q2 := grow_cellO hSw.out (block_lt_of_cell e0) e0; have ql0 := Hl17.out _ hSw.out; clear hSw; go_simp; try with_reducible rfl)
      try simp only [Act.put, List.setIfInBounds_toArray, List.set_cons_zero, List.set_cons_succ]
      refine wpAnyH_take (i := 8) (oi := { dst := some 102, op := Op.move (Operand.tmp 8), type := 44, pos := "law.go:162", after := #[], guard := none }) (v := ?_) rfl (by kernel_rfl) (by kernel_rfl) (by kernel_rfl) (fun _ _ _ h => h) (Or.inl ⟨by rfl, ?hy25⟩) hS0 ?_
      case hy25 => (intro V hSw; (try dsimp only at hSw); clear hSw; go_simp; try with_reducible rfl)
      try simp only [Act.put, List.setIfInBounds_toArray, List.set_cons_zero, List.set_cons_succ]
      refine wpAnyH_take (i := 9) (oi := { dst := some 103, op := Op.move (Operand.tmp 9), type := 3, pos := "law.go:162", after := #[], guard := none }) (v := ?_) rfl (by kernel_rfl) (by kernel_rfl) (by kernel_rfl) (fun _ _ _ h => h) (Or.inl ⟨by rfl, ?hy26⟩) hS0 ?_
      case hy26 => (intro V hSw; (try dsimp only at hSw); clear hSw; go_simp; try with_reducible rfl)
      try simp only [Act.put, List.setIfInBounds_toArray, List.set_cons_zero, List.set_cons_succ]
      refine wpAnyH_take (i := 10) (oi := { dst := some 104, op := Op.indexAddr 44 (Operand.tmp 102) (Operand.tmp 103), type := 0, pos := "law.go:162", after := #[{ on := 8, ground := Ground.data }, { on := 9, ground := Ground.data }], guard := none }) (v := ?_) rfl (by kernel_rfl) (by kernel_rfl) (by kernel_rfl) (fun _ _ _ h => h) (Or.inl ⟨by rfl, ?hy27⟩) hS0 ?_
      case hy27 => (intro V hSw; (try dsimp only at hSw); clear hSw; go_simp; try with_reducible rfl)
      try simp only [Act.put, List.setIfInBounds_toArray, List.set_cons_zero, List.set_cons_succ]
      refine wpAnyH_take (i := 11) (oi := { dst := some 105, op := Op.load 9 (Operand.tmp 104), type := 9, pos := "law.go:162", after := #[{ on := 10, ground := Ground.data }], guard := none }) (v := ?_) rfl (by kernel_rfl) (by kernel_rfl) (by kernel_rfl) (fun _ _ _ h => h) (Or.inl ⟨by rfl, ?hy28⟩) hS0 ?_
      case hy28 => (intro V hSw; (try dsimp only at hSw); have q0 := grow_cellO hSw.out (block_lt_of_cell s17) s17; have q1 := grow_cellO hSw.out (block_lt_of_cell k17) k17; have q2 := grow_cellO hSw.out (block_lt_of_cell e0) e0; have ql0 := Hl17.out _ hSw.out; clear hSw; go_simp; try with_reducible rfl)
      try simp only [Act.put, List.setIfInBounds_toArray, List.set_cons_zero, List.set_cons_succ]
      refine wpAnyH_ready (rs := [12]) (by kernel_rfl) (by simp) (AllReadyH.cons rfl (fun K hK => ?_) AllReadyH.nil)
      go_simp
      refine (Hfi0.out _ hS0.out).mono ?_
      rintro e wv29 ⟨rfl, hv29⟩
      have hS29 := Lib.hid (hS0.out.trans (hv29.mono hS0.out.size))
      clear hv29
      refine hK.out _ _ hS29 (fun _ => ?_)
      clear hK K
      try simp only [Act.put, List.setIfInBounds_toArray, List.set_cons_zero, List.set_cons_succ]
      refine wpAnyH_take (i := 13) (oi := { dst := some 93, op := Op.move (Operand.tmp 106), type := 32, pos := "law.go:162", after := #[{ on := 12, ground := Ground.data }], guard := none }) (v := ?_) rfl (by kernel_rfl) (by kernel_rfl) (by kernel_rfl) (fun _ _ _ h => h) (Or.inl ⟨by rfl, ?hy30⟩) hS29 ?_
      case hy30 => (intro V hSw; (try dsimp only at hSw); clear hSw; go_simp; try with_reducible rfl)
      try simp only [Act.put, List.setIfInBounds_toArray, List.set_cons_zero, List.set_cons_succ]
      refine wpAnyH_take (i := 14) (oi := { dst := some 107, op := Op.extract (Operand.tmp 93) 0, type := 9, pos := "law.go:162", after := #[{ on := 13, ground := Ground.data }], guard := none }) (v := ?_) rfl (by kernel_rfl) (by kernel_rfl) (by kernel_rfl) (fun _ _ _ h => h) (Or.inl ⟨by rfl, ?hy31⟩) hS29 ?_
      case hy31 => (intro V hSw; (try dsimp only at hSw); clear hSw; go_simp; try with_reducible rfl)
      try simp only [Act.put, List.setIfInBounds_toArray, List.set_cons_zero, List.set_cons_succ]
      refine wpAnyH_take (i := 15) (oi := { dst := some 108, op := Op.extract (Operand.tmp 93) 1, type := 4, pos := "law.go:162", after := #[{ on := 13, ground := Ground.data }, { on := 16, ground := Ground.gcOnly Departure.lateStores }], guard := none }) (v := ?_) rfl (by kernel_rfl) (by kernel_rfl) (by kernel_rfl) (fun _ _ _ h => h) (Or.inl ⟨by rfl, ?hy32⟩) hS29 ?_
      case hy32 => (intro V hSw; (try dsimp only at hSw); clear hSw; go_simp; try with_reducible rfl)
      try simp only [Act.put, List.setIfInBounds_toArray, List.set_cons_zero, List.set_cons_succ]
      refine wpAnyH_take (i := 16) (oi := { dst := some 10, op := Op.assign (Operand.tmp 107), type := 9, pos := "law.go:162", after := #[{ on := 14, ground := Ground.data }, { on := 12, ground := Ground.chain }, { on := 0, ground := Ground.phase }, { on := 1, ground := Ground.phase }, { on := 2, ground := Ground.phase }, { on := 3, ground := Ground.phase }, { on := 4, ground := Ground.phase }, { on := 5, ground := Ground.phase }, { on := 6, ground := Ground.phase }, { on := 7, ground := Ground.phase }, { on := 8, ground := Ground.phase }, { on := 9, ground := Ground.phase }, { on := 10, ground := Ground.phase }, { on := 11, ground := Ground.phase }, { on := 12, ground := Ground.phase }, { on := 13, ground := Ground.phase }, { on := 14, ground := Ground.phase }, { on := 15, ground := Ground.textOnly Departure.lateStores }], guard := none }) (v := ?_) rfl (by kernel_rfl) (by kernel_rfl) (by kernel_rfl) (fun _ _ _ h => h) (Or.inl ⟨by rfl, ?hy33⟩) hS29 ?_
      case hy33 => (intro V hSw; (try dsimp only at hSw); clear hSw; go_simp; try with_reducible rfl)
      try simp only [Act.put, List.setIfInBounds_toArray, List.set_cons_zero, List.set_cons_succ]
      refine wpAnyH_ready (rs := [17]) (by kernel_rfl) (by simp) (AllReadyH.cons rfl (fun K hK => ?_) AllReadyH.nil)
      go_simp
      refine hK.out _ _ hS29 (fun _ => ?_)
      clear hK K
      try simp only [Act.put, List.setIfInBounds_toArray, List.set_cons_zero, List.set_cons_succ]
      refine wpAnyH_done (by kernel_rfl) ?_ _
      have HzE := Lib.hid (blk_bels hS29.out Hz2.out)
      have HXE := Lib.hid (HX2.out.bel hS29.out)
      have HkE := Lib.hid (Hk2.out.trans (KeepD.of_below hS29.out))
      have HbE := Lib.hid (Hb2.out.trans (hS29.out.mono (Nat.le_trans Hlo.out Hw2.out)))
      have e1 := grow_cellO hS29.out (block_lt_of_cell e0) e0
      clear e0 s17 k17
      have z0 := (cell_of_blk HzE.out 0).trans (show _ = some (.int .i64 0) from rfl)
      have z1 := (cell_of_blk HzE.out 1).trans (show _ = some (.string ⟨#[]⟩) from rfl)
      have z2 := (cell_of_blk HzE.out 2).trans (show _ = some (.string ⟨#[]⟩) from rfl)
      have f0 := frozen_of_blk HzE.out 0
      have f1 := frozen_of_blk HzE.out 1
      have f2 := frozen_of_blk HzE.out 2
      have g1 : ((wv29.setCell ⟨W.heap.size + 1, 0, none⟩ (.int .i64 1)).heap[W.heap.size + 1]? = some (.cells #[.int .i64 1, .string ⟨#[]⟩, .string ⟨#[]⟩] 40 (0, 0))) := (blk_set HzE.out).trans rfl
      have g2 : (((wv29.setCell ⟨W.heap.size + 1, 0, none⟩ (.int .i64 1)).setCell ⟨W.heap.size + 1, 1, none⟩ (.string u)).heap[W.heap.size + 1]? = some (.cells #[.int .i64 1, .string u, .string ⟨#[]⟩] 40 (0, 0))) := (blk_set g1).trans rfl
      have hfx := ((HXE.out.for (KeptDoc.setOp (i := 0) (x := .int .i64 1) HzE.out)).for (KeptDoc.setOp (i := 1) (x := .string u) g1)).for (KeptDoc.setOp (i := 2) (x := .string vv) g2)
      have hfk := ((HkE.out.new (i := 0) (x := .int .i64 1) (Nat.le_succ W.heap.size)).new (i := 1) (x := .string u) (Nat.le_succ W.heap.size)).new (i := 2) (x := .string vv) (Nat.le_succ W.heap.size)
      have hlz : lo ≤ W.heap.size + 1 := Nat.le_succ_of_le Hlo.out
      have hfb := ((HbE.out.setCell (p := ⟨W.heap.size + 1, 0, none⟩) hlz (.int .i64 1)).setCell (p := ⟨W.heap.size + 1, 1, none⟩) hlz (.string u)).setCell (p := ⟨W.heap.size + 1, 2, none⟩) hlz (.string vv)
      have Fin := Lib.hid (smove_end (T := T) (zt := zt) HX.out hfx hfk hfb Hq.out Hmv.out.1 Hmv.out.2.1 Hmx.out)
      clear g1 g2 hfx hfk hfb hlz
      go_wp2_with fail
      refine bodyPost_ret (v := .tuple #[.agg #[.int .i64 1, .string u, .string vv], .bool true]) (by simp [results, Try.results42, go_sem, z0, z1, z2]) rfl ?_
      exact Fin.out
  · -- how = 2
    skip
    skip
    have Hq : Hid (MvEq (outO F ks) ((kn : Int) - 1) (mvQ (outO F ks) 2 p key)) := Lib.hid (by rw [show mvQ (outO F ks) 2 p key = ((outO F ks).length : Int) - 1 from rfl, outO_len, ← Hkn.out]; exact MvEq.rfl' _ _)
    go_upto_region 13 with fail
    by_cases hq0 : (kn : Int) - 1 < 0
    · have Hmv := Lib.hid (mv_out (l := outO F ks) (q := (kn : Int) - 1) (.inl hq0))
      go_upto_region 14 with fail
      have sX2 := (cell_of_blk HXX.out.st 2).trans (show _ = some (.map (some as_)) from rfl)
      have kX1 := (cell_of_blk HcX.out 1).trans (show _ = some (.int .i64 a) from rfl)
      obtain ⟨W2, hput, hT2, hg2⟩ := (show OwnsF snT X.drew as_ T zt from HXX.out.at_.of_blk rfl).put a (-1) Hw.out (show (Lit.int .i64 (-1)).wf = true by decide) (by unfold maxLen; omega)
      rw [HT.out] at hT2
      have hg2' : X.grownBy W2 (some as_) := ⟨hg2.os, hg2.tape, hg2.output, hg2.size, hg2.block⟩
      have hmap := HXX.out.at_.map
      have hlx : lo ≤ X.heap.size := Nat.le_trans Hlo.out HbX.out.size
      have HX2 : Hid (XS W2 lo base xb sb most rx ss is_ as_ hd S zs N zi (updF T a (some (-1))) zt) := Lib.hid (HXX.out.putT hg2' hT2)
      have Hk2 := Lib.hid (HkX.out.trans (KeepD.map (ss := ss) (is_ := is_) hg2' hmap (.inr (.inr rfl))))
      have Hb2 := Lib.hid ((HbX.out.mono Hlo.out).trans (grown_below hg2' HXX.out.l3 hlx))
      have Hc2 := Lib.hid (KeptTy.map hg2' hmap _ _ _ HcX.out)
      have Hz2 := Lib.hid (KeptTy.map hg2' hmap _ _ _ HzX.out)
      have Hw2 := Lib.hid (Nat.le_trans HbX.out.size hg2'.size)
      clear hT2 hg2 hg2' hmap hlx
      go_still_tail 6, (by kernel_rfl)
      change wpList _ _ _ _ _ X.drew
      refine wpList_mapput rfl _ _ _ _ rfl rfl rfl rfl hput ?_
      clear hput sX2 kX1
      have HzE := Hz2
      have HXE := HX2
      have HkE := Hk2
      have HbE := Hb2
      have z0 := (cell_of_blk HzE.out 0).trans (show _ = some (.int .i64 0) from rfl)
      have z1 := (cell_of_blk HzE.out 1).trans (show _ = some (.string ⟨#[]⟩) from rfl)
      have z2 := (cell_of_blk HzE.out 2).trans (show _ = some (.string ⟨#[]⟩) from rfl)
      have f0 := frozen_of_blk HzE.out 0
      have f1 := frozen_of_blk HzE.out 1
      have f2 := frozen_of_blk HzE.out 2
      have g1 : ((W2.setCell ⟨W.heap.size + 1, 0, none⟩ (.int .i64 0)).heap[W.heap.size + 1]? = some (.cells #[.int .i64 0, .string ⟨#[]⟩, .string ⟨#[]⟩] 40 (0, 0))) := (blk_set HzE.out).trans rfl
      have g2 : (((W2.setCell ⟨W.heap.size + 1, 0, none⟩ (.int .i64 0)).setCell ⟨W.heap.size + 1, 1, none⟩ (.string ⟨#[]⟩)).heap[W.heap.size + 1]? = some (.cells #[.int .i64 0, .string ⟨#[]⟩, .string ⟨#[]⟩] 40 (0, 0))) := (blk_set g1).trans rfl
      have hfx := ((HXE.out.for (KeptDoc.setOp (i := 0) (x := .int .i64 0) HzE.out)).for (KeptDoc.setOp (i := 1) (x := .string ⟨#[]⟩) g1)).for (KeptDoc.setOp (i := 2) (x := .string ⟨#[]⟩) g2)
      have hfk := ((HkE.out.new (i := 0) (x := .int .i64 0) (Nat.le_succ W.heap.size)).new (i := 1) (x := .string ⟨#[]⟩) (Nat.le_succ W.heap.size)).new (i := 2) (x := .string ⟨#[]⟩) (Nat.le_succ W.heap.size)
      have hlz : lo ≤ W.heap.size + 1 := Nat.le_succ_of_le Hlo.out
      have hfb := ((HbE.out.setCell (p := ⟨W.heap.size + 1, 0, none⟩) hlz (.int .i64 0)).setCell (p := ⟨W.heap.size + 1, 1, none⟩) hlz (.string ⟨#[]⟩)).setCell (p := ⟨W.heap.size + 1, 2, none⟩) hlz (.string ⟨#[]⟩)
      have Fin := Lib.hid (smove_end (T := T) (zt := zt) HX.out hfx hfk hfb Hq.out Hmv.out.1 Hmv.out.2.1 Hmv.out.2.2)
      clear g1 g2 hfx hfk hfb hlz
      go_wp2_with fail
      refine bodyPost_ret (v := .tuple #[.agg #[.int .i64 0, .string ⟨#[]⟩, .string ⟨#[]⟩], .bool false]) (by simp [results, Try.results42, go_sem, z0, z1, z2]) rfl ?_
      exact Fin.out
    · by_cases hqn : (kn : Int) ≤ (kn : Int) - 1
      · exfalso; omega
      · obtain ⟨i, hi⟩ : ∃ i : Nat, (kn : Int) - 1 = (i : Int) := ⟨((kn : Int) - 1).toNat, by omega⟩
        rw [hi] at Hq ⊢
        have hik : i < kn := by omega
        obtain ⟨y, hy⟩ : ∃ y, ks[i]? = some y := ⟨_, List.getElem?_eq_getElem (by rw [← Hkn.out]; exact hik)⟩
        have hmv := mv_in (l := outO F ks) (i := i) (outO_at (F := F) hy)
        have hsome := (Hks.out.iff y (Hks.out.le y (List.mem_of_getElem? hy))).1 (List.mem_of_getElem? hy)
        have hvy : valO F y = (findL (ba y) all).1 := by
          unfold valO
          rw [HF.out, foldF_is] at hsome ⊢
          cases q : (findL (ba y) all).2 with
          | true => rw [if_pos rfl]; rfl
          | false => rw [q] at hsome; cases hsome
        obtain ⟨g, rfl, hgl, hce⟩ := own_str (by have := HstX.out; unfold OwnSt at this; rw [← Hkn.out] at this; exact this) Hkn.out.symm (by omega)
        have e00 := hce i y hy
        obtain ⟨u, hu⟩ : ∃ u, u = ba y := ⟨_, rfl⟩
        obtain ⟨⟨vv, isb⟩, hvv⟩ : ∃ r, r = findL u all := ⟨_, rfl⟩
        rw [← hu] at e00
        have Hmv : Hid (mvIn (outO F ks) (i : Int) = true ∧ mvP (outO F ks) (i : Int) = (i : Int) ∧ mvX (outO F ks) (i : Int) = ⟨1, ba y, valO F y⟩) := Lib.hid hmv
        have Hmx : Hid (mvX (outO F ks) (i : Int) = ⟨1, u, vv⟩) := Lib.hid (by rw [Hmv.out.2.2, hvy, ← hu, ← hvv])
        have Hvv := Lib.hid hvv
        have hki : ((0 : Nat) : Int) ≤ (i : Int) ∧ (i : Int) < (kn : Int) := by omega
        clear hmv hsome hvy hu hvv hce hy
        go_upto_region 16 with fail
        have sX2 := (cell_of_blk HXX.out.st 2).trans (show _ = some (.map (some as_)) from rfl)
        have kX1 := (cell_of_blk HcX.out 1).trans (show _ = some (.int .i64 a) from rfl)
        obtain ⟨W2, hput, hT2, hg2⟩ := (show OwnsF snT X.drew as_ T zt from HXX.out.at_.of_blk rfl).put a ((i : Int)) Hw.out (WalkArith.wf_i64 (by omega)) (by unfold maxLen; omega)
        rw [HT.out] at hT2
        have hg2' : X.grownBy W2 (some as_) := ⟨hg2.os, hg2.tape, hg2.output, hg2.size, hg2.block⟩
        have hmap := HXX.out.at_.map
        have hlx : lo ≤ X.heap.size := Nat.le_trans Hlo.out HbX.out.size
        have HX2 : Hid (XS W2 lo base xb sb most rx ss is_ as_ hd S zs N zi (updF T a (some ((i : Int)))) zt) := Lib.hid (HXX.out.putT hg2' hT2)
        have Hk2 := Lib.hid (HkX.out.trans (KeepD.map (ss := ss) (is_ := is_) hg2' hmap (.inr (.inr rfl))))
        have Hb2 := Lib.hid ((HbX.out.mono Hlo.out).trans (grown_below hg2' HXX.out.l3 hlx))
        have Hc2 := Lib.hid (KeptTy.map hg2' hmap _ _ _ HcX.out)
        have Hz2 := Lib.hid (KeptTy.map hg2' hmap _ _ _ HzX.out)
        have Hw2 := Lib.hid (Nat.le_trans HbX.out.size hg2'.size)
        have e0 : W2.cell? ⟨g, i, none⟩ = some (.string u) := grow_over hg2' hmap e00
        clear hT2 hg2 hg2' hmap hlx
        go_still_tail 7, (by kernel_rfl)
        change wpList _ _ _ _ _ X.drew
        refine wpList_mapput rfl _ _ _ _ rfl rfl rfl rfl hput ?_
        clear hput sX2 kX1 e00
        go_upto_region 17 with fail
        have s17 := (cell_of_blk HX2.out.st 1).trans (show _ = some (.map (some is_)) from rfl)
        have k17 := (cell_of_blk Hc2.out 1).trans (show _ = some (.int .i64 a) from rfl)
        have Hl17 := Lib.hid (fun (A : World) (hA : Below W2.heap.size W2 A) => Hli2.out A (HX2.out.it.below hA))
        have Hfi0 := Lib.hid (fun (A : World) (hA : Below W2.heap.size W2 A) => Hfi.out u A (HX2.out.xo.bel hA))
        rw [← Hvv.out] at Hfi0
        refine wp_region_held_drew (S := fun V' => Hid (Below W2.heap.size W2 V')) (by kernel_rfl) (Lib.hid ((Below.refl _ _).drew)) (fun hS0 => ?_)
        refine wpAnyH_take (i := 0) (oi := { dst := some 94, op := Op.move (Operand.tmp 1), type := 26, pos := "law.go:162", after := #[], guard := none }) (v := ?_) rfl (by kernel_rfl) (by kernel_rfl) (by kernel_rfl) (fun _ _ _ h => h) (Or.inl ⟨by rfl, ?hy34⟩) hS0 ?_
        case hy34 => (intro V hSw; (try dsimp only at hSw); clear hSw; go_simp; try with_reducible rfl)
        try simp only [Act.put, List.setIfInBounds_toArray, List.set_cons_zero, List.set_cons_succ]
        refine wpAnyH_take (i := 1) (oi := { dst := some 95, op := Op.move (Operand.tmp 0), type := 59, pos := "law.go:162", after := #[], guard := none }) (v := ?_) rfl (by kernel_rfl) (by kernel_rfl) (by kernel_rfl) (fun _ _ _ h => h) (Or.inl ⟨by rfl, ?hy35⟩) hS0 ?_
        case hy35 => (intro V hSw; (try dsimp only at hSw); clear hSw; go_simp; try with_reducible rfl)
        try simp only [Act.put, List.setIfInBounds_toArray, List.set_cons_zero, List.set_cons_succ]
        refine wpAnyH_take (i := 2) (oi := { dst := some 96, op := Op.nilCheck (Operand.tmp 95), type := 0, pos := "law.go:162", after := #[{ on := 1, ground := Ground.data }], guard := none }) (v := ?_) rfl (by kernel_rfl) (by kernel_rfl) (by kernel_rfl) (fun _ _ _ h => h) (Or.inl ⟨by rfl, ?hy36⟩) hS0 ?_
        case hy36 => (intro V hSw; (try dsimp only at hSw); clear hSw; go_simp; try with_reducible rfl)
        try simp only [Act.put, List.setIfInBounds_toArray, List.set_cons_zero, List.set_cons_succ]
        refine wpAnyH_take (i := 3) (oi := { dst := some 97, op := Op.fieldAddr 62 (Operand.tmp 96) 1, type := 0, pos := "law.go:162", after := #[{ on := 2, ground := Ground.data }], guard := none }) (v := ?_) rfl (by kernel_rfl) (by kernel_rfl) (by kernel_rfl) (fun _ _ _ h => h) (Or.inl ⟨by rfl, ?hy37⟩) hS0 ?_
        case hy37 => (intro V hSw; (try dsimp only at hSw); clear hSw; go_simp; try with_reducible rfl)
        try simp only [Act.put, List.setIfInBounds_toArray, List.set_cons_zero, List.set_cons_succ]
        refine wpAnyH_take (i := 4) (oi := { dst := some 98, op := Op.load 60 (Operand.tmp 97), type := 60, pos := "law.go:162", after := #[{ on := 3, ground := Ground.data }], guard := none }) (v := ?_) rfl (by kernel_rfl) (by kernel_rfl) (by kernel_rfl) (fun _ _ _ h => h) (Or.inl ⟨by rfl, ?hy38⟩) hS0 ?_
        case hy38 => (intro V hSw; (try dsimp only at hSw); have q0 := grow_cellO hSw.out (block_lt_of_cell s17) s17; have q1 := grow_cellO hSw.out (block_lt_of_cell k17) k17; have q2 := grow_cellO hSw.out (block_lt_of_cell e0) e0; have ql0 := Hl17.out _ hSw.out; clear hSw; go_simp; try with_reducible rfl)
        try simp only [Act.put, List.setIfInBounds_toArray, List.set_cons_zero, List.set_cons_succ]
        refine wpAnyH_take (i := 5) (oi := { dst := some 99, op := Op.fieldAddr 64 (Operand.tmp 5) 1, type := 0, pos := "law.go:162", after := #[], guard := none }) (v := ?_) rfl (by kernel_rfl) (by kernel_rfl) (by kernel_rfl) (fun _ _ _ h => h) (Or.inl ⟨by rfl, ?hy39⟩) hS0 ?_
        case hy39 => (intro V hSw; (try dsimp only at hSw); clear hSw; go_simp; try with_reducible rfl)
        try simp only [Act.put, List.setIfInBounds_toArray, List.set_cons_zero, List.set_cons_succ]
        refine wpAnyH_take (i := 6) (oi := { dst := some 100, op := Op.load 3 (Operand.tmp 99), type := 3, pos := "law.go:162", after := #[{ on := 5, ground := Ground.data }], guard := none }) (v := ?_) rfl (by kernel_rfl) (by kernel_rfl) (by kernel_rfl) (fun _ _ _ h => h) (Or.inl ⟨by rfl, ?hy40⟩) hS0 ?_
        case hy40 => (intro V hSw; (try dsimp only at hSw); have q0 := grow_cellO hSw.out (block_lt_of_cell s17) s17; have q1 := grow_cellO hSw.out (block_lt_of_cell k17) k17; have q2 := grow_cellO hSw.out (block_lt_of_cell e0) e0; have ql0 := Hl17.out _ hSw.out; clear hSw; go_simp; try with_reducible rfl)
        try simp only [Act.put, List.setIfInBounds_toArray, List.set_cons_zero, List.set_cons_succ]
        refine wpAnyH_take (i := 7) (oi := { dst := some 101, op := Op.lookup 60 (Operand.tmp 98) (Operand.tmp 100) false, type := 3, pos := "law.go:162", after := #[{ on := 4, ground := Ground.data }, { on := 6, ground := Ground.data }], guard := none }) (v := ?_) rfl (by kernel_rfl) (by kernel_rfl) (by kernel_rfl) (fun _ _ _ h => h) (Or.inl ⟨by rfl, ?hy41⟩) hS0 ?_
        case hy41 => (intro V hSw; (try dsimp only at hSw); have q0 := grow_cellO hSw.out (block_lt_of_cell s17) s17; have q1 := grow_cellO hSw.out (block_lt_of_cell k17) k17; have q2 := grow_cellO hSw.out (block_lt_of_cell e0) e0; have ql0 := Hl17.out _ hSw.out; clear hSw; go_simp; try with_reducible rfl)
        try simp only [Act.put, List.setIfInBounds_toArray, List.set_cons_zero, List.set_cons_succ]
        refine wpAnyH_take (i := 8) (oi := { dst := some 102, op := Op.move (Operand.tmp 8), type := 44, pos := "law.go:162", after := #[], guard := none }) (v := ?_) rfl (by kernel_rfl) (by kernel_rfl) (by kernel_rfl) (fun _ _ _ h => h) (Or.inl ⟨by rfl, ?hy42⟩) hS0 ?_
        case hy42 => (intro V hSw; (try dsimp only at hSw); clear hSw; go_simp; try with_reducible rfl)
        try simp only [Act.put, List.setIfInBounds_toArray, List.set_cons_zero, List.set_cons_succ]
        refine wpAnyH_take (i := 9) (oi := { dst := some 103, op := Op.move (Operand.tmp 9), type := 3, pos := "law.go:162", after := #[], guard := none }) (v := ?_) rfl (by kernel_rfl) (by kernel_rfl) (by kernel_rfl) (fun _ _ _ h => h) (Or.inl ⟨by rfl, ?hy43⟩) hS0 ?_
        case hy43 => (intro V hSw; (try dsimp only at hSw); clear hSw; go_simp; try with_reducible rfl)
        try simp only [Act.put, List.setIfInBounds_toArray, List.set_cons_zero, List.set_cons_succ]
        refine wpAnyH_take (i := 10) (oi := { dst := some 104, op := Op.indexAddr 44 (Operand.tmp 102) (Operand.tmp 103), type := 0, pos := "law.go:162", after := #[{ on := 8, ground := Ground.data }, { on := 9, ground := Ground.data }], guard := none }) (v := ?_) rfl (by kernel_rfl) (by kernel_rfl) (by kernel_rfl) (fun _ _ _ h => h) (Or.inl ⟨by rfl, ?hy44⟩) hS0 ?_
        case hy44 => (intro V hSw; (try dsimp only at hSw); clear hSw; go_simp; try with_reducible rfl)
        try simp only [Act.put, List.setIfInBounds_toArray, List.set_cons_zero, List.set_cons_succ]
        refine wpAnyH_take (i := 11) (oi := { dst := some 105, op := Op.load 9 (Operand.tmp 104), type := 9, pos := "law.go:162", after := #[{ on := 10, ground := Ground.data }], guard := none }) (v := ?_) rfl (by kernel_rfl) (by kernel_rfl) (by kernel_rfl) (fun _ _ _ h => h) (Or.inl ⟨by rfl, ?hy45⟩) hS0 ?_
        case hy45 => (intro V hSw; (try dsimp only at hSw); have q0 := grow_cellO hSw.out (block_lt_of_cell s17) s17; have q1 := grow_cellO hSw.out (block_lt_of_cell k17) k17; have q2 := grow_cellO hSw.out (block_lt_of_cell e0) e0; have ql0 := Hl17.out _ hSw.out; clear hSw; go_simp; try with_reducible rfl)
        try simp only [Act.put, List.setIfInBounds_toArray, List.set_cons_zero, List.set_cons_succ]
        refine wpAnyH_ready (rs := [12]) (by kernel_rfl) (by simp) (AllReadyH.cons rfl (fun K hK => ?_) AllReadyH.nil)
        go_simp
        refine (Hfi0.out _ hS0.out).mono ?_
        rintro e wv46 ⟨rfl, hv46⟩
        have hS46 := Lib.hid (hS0.out.trans (hv46.mono hS0.out.size))
        clear hv46
        refine hK.out _ _ hS46 (fun _ => ?_)
        clear hK K
        try simp only [Act.put, List.setIfInBounds_toArray, List.set_cons_zero, List.set_cons_succ]
        refine wpAnyH_take (i := 13) (oi := { dst := some 93, op := Op.move (Operand.tmp 106), type := 32, pos := "law.go:162", after := #[{ on := 12, ground := Ground.data }], guard := none }) (v := ?_) rfl (by kernel_rfl) (by kernel_rfl) (by kernel_rfl) (fun _ _ _ h => h) (Or.inl ⟨by rfl, ?hy47⟩) hS46 ?_
        case hy47 => (intro V hSw; (try dsimp only at hSw); clear hSw; go_simp; try with_reducible rfl)
        try simp only [Act.put, List.setIfInBounds_toArray, List.set_cons_zero, List.set_cons_succ]
        refine wpAnyH_take (i := 14) (oi := { dst := some 107, op := Op.extract (Operand.tmp 93) 0, type := 9, pos := "law.go:162", after := #[{ on := 13, ground := Ground.data }], guard := none }) (v := ?_) rfl (by kernel_rfl) (by kernel_rfl) (by kernel_rfl) (fun _ _ _ h => h) (Or.inl ⟨by rfl, ?hy48⟩) hS46 ?_
        case hy48 => (intro V hSw; (try dsimp only at hSw); clear hSw; go_simp; try with_reducible rfl)
        try simp only [Act.put, List.setIfInBounds_toArray, List.set_cons_zero, List.set_cons_succ]
        refine wpAnyH_take (i := 15) (oi := { dst := some 108, op := Op.extract (Operand.tmp 93) 1, type := 4, pos := "law.go:162", after := #[{ on := 13, ground := Ground.data }, { on := 16, ground := Ground.gcOnly Departure.lateStores }], guard := none }) (v := ?_) rfl (by kernel_rfl) (by kernel_rfl) (by kernel_rfl) (fun _ _ _ h => h) (Or.inl ⟨by rfl, ?hy49⟩) hS46 ?_
        case hy49 => (intro V hSw; (try dsimp only at hSw); clear hSw; go_simp; try with_reducible rfl)
        try simp only [Act.put, List.setIfInBounds_toArray, List.set_cons_zero, List.set_cons_succ]
        refine wpAnyH_take (i := 16) (oi := { dst := some 10, op := Op.assign (Operand.tmp 107), type := 9, pos := "law.go:162", after := #[{ on := 14, ground := Ground.data }, { on := 12, ground := Ground.chain }, { on := 0, ground := Ground.phase }, { on := 1, ground := Ground.phase }, { on := 2, ground := Ground.phase }, { on := 3, ground := Ground.phase }, { on := 4, ground := Ground.phase }, { on := 5, ground := Ground.phase }, { on := 6, ground := Ground.phase }, { on := 7, ground := Ground.phase }, { on := 8, ground := Ground.phase }, { on := 9, ground := Ground.phase }, { on := 10, ground := Ground.phase }, { on := 11, ground := Ground.phase }, { on := 12, ground := Ground.phase }, { on := 13, ground := Ground.phase }, { on := 14, ground := Ground.phase }, { on := 15, ground := Ground.textOnly Departure.lateStores }], guard := none }) (v := ?_) rfl (by kernel_rfl) (by kernel_rfl) (by kernel_rfl) (fun _ _ _ h => h) (Or.inl ⟨by rfl, ?hy50⟩) hS46 ?_
        case hy50 => (intro V hSw; (try dsimp only at hSw); clear hSw; go_simp; try with_reducible rfl)
        try simp only [Act.put, List.setIfInBounds_toArray, List.set_cons_zero, List.set_cons_succ]
        refine wpAnyH_ready (rs := [17]) (by kernel_rfl) (by simp) (AllReadyH.cons rfl (fun K hK => ?_) AllReadyH.nil)
        go_simp
        refine hK.out _ _ hS46 (fun _ => ?_)
        clear hK K
        try simp only [Act.put, List.setIfInBounds_toArray, List.set_cons_zero, List.set_cons_succ]
        refine wpAnyH_done (by kernel_rfl) ?_ _
        have HzE := Lib.hid (blk_bels hS46.out Hz2.out)
        have HXE := Lib.hid (HX2.out.bel hS46.out)
        have HkE := Lib.hid (Hk2.out.trans (KeepD.of_below hS46.out))
        have HbE := Lib.hid (Hb2.out.trans (hS46.out.mono (Nat.le_trans Hlo.out Hw2.out)))
        have e1 := grow_cellO hS46.out (block_lt_of_cell e0) e0
        clear e0 s17 k17
        have z0 := (cell_of_blk HzE.out 0).trans (show _ = some (.int .i64 0) from rfl)
        have z1 := (cell_of_blk HzE.out 1).trans (show _ = some (.string ⟨#[]⟩) from rfl)
        have z2 := (cell_of_blk HzE.out 2).trans (show _ = some (.string ⟨#[]⟩) from rfl)
        have f0 := frozen_of_blk HzE.out 0
        have f1 := frozen_of_blk HzE.out 1
        have f2 := frozen_of_blk HzE.out 2
        have g1 : ((wv46.setCell ⟨W.heap.size + 1, 0, none⟩ (.int .i64 1)).heap[W.heap.size + 1]? = some (.cells #[.int .i64 1, .string ⟨#[]⟩, .string ⟨#[]⟩] 40 (0, 0))) := (blk_set HzE.out).trans rfl
        have g2 : (((wv46.setCell ⟨W.heap.size + 1, 0, none⟩ (.int .i64 1)).setCell ⟨W.heap.size + 1, 1, none⟩ (.string u)).heap[W.heap.size + 1]? = some (.cells #[.int .i64 1, .string u, .string ⟨#[]⟩] 40 (0, 0))) := (blk_set g1).trans rfl
        have hfx := ((HXE.out.for (KeptDoc.setOp (i := 0) (x := .int .i64 1) HzE.out)).for (KeptDoc.setOp (i := 1) (x := .string u) g1)).for (KeptDoc.setOp (i := 2) (x := .string vv) g2)
        have hfk := ((HkE.out.new (i := 0) (x := .int .i64 1) (Nat.le_succ W.heap.size)).new (i := 1) (x := .string u) (Nat.le_succ W.heap.size)).new (i := 2) (x := .string vv) (Nat.le_succ W.heap.size)
        have hlz : lo ≤ W.heap.size + 1 := Nat.le_succ_of_le Hlo.out
        have hfb := ((HbE.out.setCell (p := ⟨W.heap.size + 1, 0, none⟩) hlz (.int .i64 1)).setCell (p := ⟨W.heap.size + 1, 1, none⟩) hlz (.string u)).setCell (p := ⟨W.heap.size + 1, 2, none⟩) hlz (.string vv)
        have Fin := Lib.hid (smove_end (T := T) (zt := zt) HX.out hfx hfk hfb Hq.out Hmv.out.1 Hmv.out.2.1 Hmx.out)
        clear g1 g2 hfx hfk hfb hlz
        go_wp2_with fail
        refine bodyPost_ret (v := .tuple #[.agg #[.int .i64 1, .string u, .string vv], .bool true]) (by simp [results, Try.results42, go_sem, z0, z1, z2]) rfl ?_
        exact Fin.out
  · by_cases hpc : p < 0
    · -- how = 3
      have pm : ¬ 0 ≤ p := by omega
      have pe : p = -1 := by omega
      have Hpe := Lib.hid pe
      clear pe
      skip
      have Hq : Hid (MvEq (outO F ks) (p) (mvQ (outO F ks) 3 p key)) := Lib.hid (by rw [show mvQ (outO F ks) 3 p key = p by rw [Hpe.out]; rfl]; exact MvEq.rfl' _ _)
      go_upto_region 13 with fail
      have Hmv := Lib.hid (mv_out (l := outO F ks) (q := p) (.inl (by omega)))
      go_upto_region 14 with fail
      have sX2 := (cell_of_blk HXX.out.st 2).trans (show _ = some (.map (some as_)) from rfl)
      have kX1 := (cell_of_blk HcX.out 1).trans (show _ = some (.int .i64 a) from rfl)
      obtain ⟨W2, hput, hT2, hg2⟩ := (show OwnsF snT X.drew as_ T zt from HXX.out.at_.of_blk rfl).put a (-1) Hw.out (show (Lit.int .i64 (-1)).wf = true by decide) (by unfold maxLen; omega)
      rw [HT.out] at hT2
      have hg2' : X.grownBy W2 (some as_) := ⟨hg2.os, hg2.tape, hg2.output, hg2.size, hg2.block⟩
      have hmap := HXX.out.at_.map
      have hlx : lo ≤ X.heap.size := Nat.le_trans Hlo.out HbX.out.size
      have HX2 : Hid (XS W2 lo base xb sb most rx ss is_ as_ hd S zs N zi (updF T a (some (-1))) zt) := Lib.hid (HXX.out.putT hg2' hT2)
      have Hk2 := Lib.hid (HkX.out.trans (KeepD.map (ss := ss) (is_ := is_) hg2' hmap (.inr (.inr rfl))))
      have Hb2 := Lib.hid ((HbX.out.mono Hlo.out).trans (grown_below hg2' HXX.out.l3 hlx))
      have Hc2 := Lib.hid (KeptTy.map hg2' hmap _ _ _ HcX.out)
      have Hz2 := Lib.hid (KeptTy.map hg2' hmap _ _ _ HzX.out)
      have Hw2 := Lib.hid (Nat.le_trans HbX.out.size hg2'.size)
      clear hT2 hg2 hg2' hmap hlx
      go_still_tail 6, (by kernel_rfl)
      change wpList _ _ _ _ _ X.drew
      refine wpList_mapput rfl _ _ _ _ rfl rfl rfl rfl hput ?_
      clear hput sX2 kX1
      have HzE := Hz2
      have HXE := HX2
      have HkE := Hk2
      have HbE := Hb2
      have z0 := (cell_of_blk HzE.out 0).trans (show _ = some (.int .i64 0) from rfl)
      have z1 := (cell_of_blk HzE.out 1).trans (show _ = some (.string ⟨#[]⟩) from rfl)
      have z2 := (cell_of_blk HzE.out 2).trans (show _ = some (.string ⟨#[]⟩) from rfl)
      have f0 := frozen_of_blk HzE.out 0
      have f1 := frozen_of_blk HzE.out 1
      have f2 := frozen_of_blk HzE.out 2
      have g1 : ((W2.setCell ⟨W.heap.size + 1, 0, none⟩ (.int .i64 0)).heap[W.heap.size + 1]? = some (.cells #[.int .i64 0, .string ⟨#[]⟩, .string ⟨#[]⟩] 40 (0, 0))) := (blk_set HzE.out).trans rfl
      have g2 : (((W2.setCell ⟨W.heap.size + 1, 0, none⟩ (.int .i64 0)).setCell ⟨W.heap.size + 1, 1, none⟩ (.string ⟨#[]⟩)).heap[W.heap.size + 1]? = some (.cells #[.int .i64 0, .string ⟨#[]⟩, .string ⟨#[]⟩] 40 (0, 0))) := (blk_set g1).trans rfl
      have hfx := ((HXE.out.for (KeptDoc.setOp (i := 0) (x := .int .i64 0) HzE.out)).for (KeptDoc.setOp (i := 1) (x := .string ⟨#[]⟩) g1)).for (KeptDoc.setOp (i := 2) (x := .string ⟨#[]⟩) g2)
      have hfk := ((HkE.out.new (i := 0) (x := .int .i64 0) (Nat.le_succ W.heap.size)).new (i := 1) (x := .string ⟨#[]⟩) (Nat.le_succ W.heap.size)).new (i := 2) (x := .string ⟨#[]⟩) (Nat.le_succ W.heap.size)
      have hlz : lo ≤ W.heap.size + 1 := Nat.le_succ_of_le Hlo.out
      have hfb := ((HbE.out.setCell (p := ⟨W.heap.size + 1, 0, none⟩) hlz (.int .i64 0)).setCell (p := ⟨W.heap.size + 1, 1, none⟩) hlz (.string ⟨#[]⟩)).setCell (p := ⟨W.heap.size + 1, 2, none⟩) hlz (.string ⟨#[]⟩)
      have Fin := Lib.hid (smove_end (T := T) (zt := zt) HX.out hfx hfk hfb Hq.out Hmv.out.1 Hmv.out.2.1 Hmv.out.2.2)
      clear g1 g2 hfx hfk hfb hlz
      go_wp2_with fail
      refine bodyPost_ret (v := .tuple #[.agg #[.int .i64 0, .string ⟨#[]⟩, .string ⟨#[]⟩], .bool false]) (by simp [results, Try.results42, go_sem, z0, z1, z2]) rfl ?_
      exact Fin.out
    · -- how = 3
      have pm : 0 ≤ p := by omega
      skip
      have Hq : Hid (MvEq (outO F ks) (p + 1) (mvQ (outO F ks) 3 p key)) := Lib.hid (by rw [show mvQ (outO F ks) 3 p key = p + 1 by unfold mvQ; rw [if_neg (by decide), if_neg (by decide), if_pos rfl, if_neg (by omega)]]; exact MvEq.rfl' _ _)
      go_upto_region 13 with fail
      by_cases hq0 : p + 1 < 0
      · exfalso; omega
      · by_cases hqn : (kn : Int) ≤ p + 1
        · have Hmv := Lib.hid (mv_out (l := outO F ks) (q := p + 1) (.inr (by rw [outO_len, ← Hkn.out]; exact hqn)))
          go_upto_region 14 with fail
          have sX2 := (cell_of_blk HXX.out.st 2).trans (show _ = some (.map (some as_)) from rfl)
          have kX1 := (cell_of_blk HcX.out 1).trans (show _ = some (.int .i64 a) from rfl)
          obtain ⟨W2, hput, hT2, hg2⟩ := (show OwnsF snT X.drew as_ T zt from HXX.out.at_.of_blk rfl).put a (-1) Hw.out (show (Lit.int .i64 (-1)).wf = true by decide) (by unfold maxLen; omega)
          rw [HT.out] at hT2
          have hg2' : X.grownBy W2 (some as_) := ⟨hg2.os, hg2.tape, hg2.output, hg2.size, hg2.block⟩
          have hmap := HXX.out.at_.map
          have hlx : lo ≤ X.heap.size := Nat.le_trans Hlo.out HbX.out.size
          have HX2 : Hid (XS W2 lo base xb sb most rx ss is_ as_ hd S zs N zi (updF T a (some (-1))) zt) := Lib.hid (HXX.out.putT hg2' hT2)
          have Hk2 := Lib.hid (HkX.out.trans (KeepD.map (ss := ss) (is_ := is_) hg2' hmap (.inr (.inr rfl))))
          have Hb2 := Lib.hid ((HbX.out.mono Hlo.out).trans (grown_below hg2' HXX.out.l3 hlx))
          have Hc2 := Lib.hid (KeptTy.map hg2' hmap _ _ _ HcX.out)
          have Hz2 := Lib.hid (KeptTy.map hg2' hmap _ _ _ HzX.out)
          have Hw2 := Lib.hid (Nat.le_trans HbX.out.size hg2'.size)
          clear hT2 hg2 hg2' hmap hlx
          go_still_tail 6, (by kernel_rfl)
          change wpList _ _ _ _ _ X.drew
          refine wpList_mapput rfl _ _ _ _ rfl rfl rfl rfl hput ?_
          clear hput sX2 kX1
          have HzE := Hz2
          have HXE := HX2
          have HkE := Hk2
          have HbE := Hb2
          have z0 := (cell_of_blk HzE.out 0).trans (show _ = some (.int .i64 0) from rfl)
          have z1 := (cell_of_blk HzE.out 1).trans (show _ = some (.string ⟨#[]⟩) from rfl)
          have z2 := (cell_of_blk HzE.out 2).trans (show _ = some (.string ⟨#[]⟩) from rfl)
          have f0 := frozen_of_blk HzE.out 0
          have f1 := frozen_of_blk HzE.out 1
          have f2 := frozen_of_blk HzE.out 2
          have g1 : ((W2.setCell ⟨W.heap.size + 1, 0, none⟩ (.int .i64 0)).heap[W.heap.size + 1]? = some (.cells #[.int .i64 0, .string ⟨#[]⟩, .string ⟨#[]⟩] 40 (0, 0))) := (blk_set HzE.out).trans rfl
          have g2 : (((W2.setCell ⟨W.heap.size + 1, 0, none⟩ (.int .i64 0)).setCell ⟨W.heap.size + 1, 1, none⟩ (.string ⟨#[]⟩)).heap[W.heap.size + 1]? = some (.cells #[.int .i64 0, .string ⟨#[]⟩, .string ⟨#[]⟩] 40 (0, 0))) := (blk_set g1).trans rfl
          have hfx := ((HXE.out.for (KeptDoc.setOp (i := 0) (x := .int .i64 0) HzE.out)).for (KeptDoc.setOp (i := 1) (x := .string ⟨#[]⟩) g1)).for (KeptDoc.setOp (i := 2) (x := .string ⟨#[]⟩) g2)
          have hfk := ((HkE.out.new (i := 0) (x := .int .i64 0) (Nat.le_succ W.heap.size)).new (i := 1) (x := .string ⟨#[]⟩) (Nat.le_succ W.heap.size)).new (i := 2) (x := .string ⟨#[]⟩) (Nat.le_succ W.heap.size)
          have hlz : lo ≤ W.heap.size + 1 := Nat.le_succ_of_le Hlo.out
          have hfb := ((HbE.out.setCell (p := ⟨W.heap.size + 1, 0, none⟩) hlz (.int .i64 0)).setCell (p := ⟨W.heap.size + 1, 1, none⟩) hlz (.string ⟨#[]⟩)).setCell (p := ⟨W.heap.size + 1, 2, none⟩) hlz (.string ⟨#[]⟩)
          have Fin := Lib.hid (smove_end (T := T) (zt := zt) HX.out hfx hfk hfb Hq.out Hmv.out.1 Hmv.out.2.1 Hmv.out.2.2)
          clear g1 g2 hfx hfk hfb hlz
          go_wp2_with fail
          refine bodyPost_ret (v := .tuple #[.agg #[.int .i64 0, .string ⟨#[]⟩, .string ⟨#[]⟩], .bool false]) (by simp [results, Try.results42, go_sem, z0, z1, z2]) rfl ?_
          exact Fin.out
        · obtain ⟨i, hi⟩ : ∃ i : Nat, p + 1 = (i : Int) := ⟨(p + 1).toNat, by omega⟩
          rw [hi] at Hq ⊢
          have hik : i < kn := by omega
          obtain ⟨y, hy⟩ : ∃ y, ks[i]? = some y := ⟨_, List.getElem?_eq_getElem (by rw [← Hkn.out]; exact hik)⟩
          have hmv := mv_in (l := outO F ks) (i := i) (outO_at (F := F) hy)
          have hsome := (Hks.out.iff y (Hks.out.le y (List.mem_of_getElem? hy))).1 (List.mem_of_getElem? hy)
          have hvy : valO F y = (findL (ba y) all).1 := by
            unfold valO
            rw [HF.out, foldF_is] at hsome ⊢
            cases q : (findL (ba y) all).2 with
            | true => rw [if_pos rfl]; rfl
            | false => rw [q] at hsome; cases hsome
          obtain ⟨g, rfl, hgl, hce⟩ := own_str (by have := HstX.out; unfold OwnSt at this; rw [← Hkn.out] at this; exact this) Hkn.out.symm (by omega)
          have e00 := hce i y hy
          obtain ⟨u, hu⟩ : ∃ u, u = ba y := ⟨_, rfl⟩
          obtain ⟨⟨vv, isb⟩, hvv⟩ : ∃ r, r = findL u all := ⟨_, rfl⟩
          rw [← hu] at e00
          have Hmv : Hid (mvIn (outO F ks) (i : Int) = true ∧ mvP (outO F ks) (i : Int) = (i : Int) ∧ mvX (outO F ks) (i : Int) = ⟨1, ba y, valO F y⟩) := Lib.hid hmv
          have Hmx : Hid (mvX (outO F ks) (i : Int) = ⟨1, u, vv⟩) := Lib.hid (by rw [Hmv.out.2.2, hvy, ← hu, ← hvv])
          have Hvv := Lib.hid hvv
          have hki : ((0 : Nat) : Int) ≤ (i : Int) ∧ (i : Int) < (kn : Int) := by omega
          clear hmv hsome hvy hu hvv hce hy
          go_upto_region 16 with fail
          have sX2 := (cell_of_blk HXX.out.st 2).trans (show _ = some (.map (some as_)) from rfl)
          have kX1 := (cell_of_blk HcX.out 1).trans (show _ = some (.int .i64 a) from rfl)
          obtain ⟨W2, hput, hT2, hg2⟩ := (show OwnsF snT X.drew as_ T zt from HXX.out.at_.of_blk rfl).put a ((i : Int)) Hw.out (WalkArith.wf_i64 (by omega)) (by unfold maxLen; omega)
          rw [HT.out] at hT2
          have hg2' : X.grownBy W2 (some as_) := ⟨hg2.os, hg2.tape, hg2.output, hg2.size, hg2.block⟩
          have hmap := HXX.out.at_.map
          have hlx : lo ≤ X.heap.size := Nat.le_trans Hlo.out HbX.out.size
          have HX2 : Hid (XS W2 lo base xb sb most rx ss is_ as_ hd S zs N zi (updF T a (some ((i : Int)))) zt) := Lib.hid (HXX.out.putT hg2' hT2)
          have Hk2 := Lib.hid (HkX.out.trans (KeepD.map (ss := ss) (is_ := is_) hg2' hmap (.inr (.inr rfl))))
          have Hb2 := Lib.hid ((HbX.out.mono Hlo.out).trans (grown_below hg2' HXX.out.l3 hlx))
          have Hc2 := Lib.hid (KeptTy.map hg2' hmap _ _ _ HcX.out)
          have Hz2 := Lib.hid (KeptTy.map hg2' hmap _ _ _ HzX.out)
          have Hw2 := Lib.hid (Nat.le_trans HbX.out.size hg2'.size)
          have e0 : W2.cell? ⟨g, i, none⟩ = some (.string u) := grow_over hg2' hmap e00
          clear hT2 hg2 hg2' hmap hlx
          go_still_tail 7, (by kernel_rfl)
          change wpList _ _ _ _ _ X.drew
          refine wpList_mapput rfl _ _ _ _ rfl rfl rfl rfl hput ?_
          clear hput sX2 kX1 e00
          go_upto_region 17 with fail
          have s17 := (cell_of_blk HX2.out.st 1).trans (show _ = some (.map (some is_)) from rfl)
          have k17 := (cell_of_blk Hc2.out 1).trans (show _ = some (.int .i64 a) from rfl)
          have Hl17 := Lib.hid (fun (A : World) (hA : Below W2.heap.size W2 A) => Hli2.out A (HX2.out.it.below hA))
          have Hfi0 := Lib.hid (fun (A : World) (hA : Below W2.heap.size W2 A) => Hfi.out u A (HX2.out.xo.bel hA))
          rw [← Hvv.out] at Hfi0
          refine wp_region_held_drew (S := fun V' => Hid (Below W2.heap.size W2 V')) (by kernel_rfl) (Lib.hid ((Below.refl _ _).drew)) (fun hS0 => ?_)
          refine wpAnyH_take (i := 0) (oi := { dst := some 94, op := Op.move (Operand.tmp 1), type := 26, pos := "law.go:162", after := #[], guard := none }) (v := ?_) rfl (by kernel_rfl) (by kernel_rfl) (by kernel_rfl) (fun _ _ _ h => h) (Or.inl ⟨by rfl, ?hy51⟩) hS0 ?_
          case hy51 => (intro V hSw; (try dsimp only at hSw); clear hSw; go_simp; try with_reducible rfl)
          try simp only [Act.put, List.setIfInBounds_toArray, List.set_cons_zero, List.set_cons_succ]
          refine wpAnyH_take (i := 1) (oi := { dst := some 95, op := Op.move (Operand.tmp 0), type := 59, pos := "law.go:162", after := #[], guard := none }) (v := ?_) rfl (by kernel_rfl) (by kernel_rfl) (by kernel_rfl) (fun _ _ _ h => h) (Or.inl ⟨by rfl, ?hy52⟩) hS0 ?_
          case hy52 => (intro V hSw; (try dsimp only at hSw); clear hSw; go_simp; try with_reducible rfl)
          try simp only [Act.put, List.setIfInBounds_toArray, List.set_cons_zero, List.set_cons_succ]
          refine wpAnyH_take (i := 2) (oi := { dst := some 96, op := Op.nilCheck (Operand.tmp 95), type := 0, pos := "law.go:162", after := #[{ on := 1, ground := Ground.data }], guard := none }) (v := ?_) rfl (by kernel_rfl) (by kernel_rfl) (by kernel_rfl) (fun _ _ _ h => h) (Or.inl ⟨by rfl, ?hy53⟩) hS0 ?_
          case hy53 => (intro V hSw; (try dsimp only at hSw); clear hSw; go_simp; try with_reducible rfl)
          try simp only [Act.put, List.setIfInBounds_toArray, List.set_cons_zero, List.set_cons_succ]
          refine wpAnyH_take (i := 3) (oi := { dst := some 97, op := Op.fieldAddr 62 (Operand.tmp 96) 1, type := 0, pos := "law.go:162", after := #[{ on := 2, ground := Ground.data }], guard := none }) (v := ?_) rfl (by kernel_rfl) (by kernel_rfl) (by kernel_rfl) (fun _ _ _ h => h) (Or.inl ⟨by rfl, ?hy54⟩) hS0 ?_
          case hy54 => (intro V hSw; (try dsimp only at hSw); clear hSw; go_simp; try with_reducible rfl)
          try simp only [Act.put, List.setIfInBounds_toArray, List.set_cons_zero, List.set_cons_succ]
          refine wpAnyH_take (i := 4) (oi := { dst := some 98, op := Op.load 60 (Operand.tmp 97), type := 60, pos := "law.go:162", after := #[{ on := 3, ground := Ground.data }], guard := none }) (v := ?_) rfl (by kernel_rfl) (by kernel_rfl) (by kernel_rfl) (fun _ _ _ h => h) (Or.inl ⟨by rfl, ?hy55⟩) hS0 ?_
          case hy55 => (intro V hSw; (try dsimp only at hSw); have q0 := grow_cellO hSw.out (block_lt_of_cell s17) s17; have q1 := grow_cellO hSw.out (block_lt_of_cell k17) k17; have q2 := grow_cellO hSw.out (block_lt_of_cell e0) e0; have ql0 := Hl17.out _ hSw.out; clear hSw; go_simp; try with_reducible rfl)
          try simp only [Act.put, List.setIfInBounds_toArray, List.set_cons_zero, List.set_cons_succ]
          refine wpAnyH_take (i := 5) (oi := { dst := some 99, op := Op.fieldAddr 64 (Operand.tmp 5) 1, type := 0, pos := "law.go:162", after := #[], guard := none }) (v := ?_) rfl (by kernel_rfl) (by kernel_rfl) (by kernel_rfl) (fun _ _ _ h => h) (Or.inl ⟨by rfl, ?hy56⟩) hS0 ?_
          case hy56 => (intro V hSw; (try dsimp only at hSw); clear hSw; go_simp; try with_reducible rfl)
          try simp only [Act.put, List.setIfInBounds_toArray, List.set_cons_zero, List.set_cons_succ]
          refine wpAnyH_take (i := 6) (oi := { dst := some 100, op := Op.load 3 (Operand.tmp 99), type := 3, pos := "law.go:162", after := #[{ on := 5, ground := Ground.data }], guard := none }) (v := ?_) rfl (by kernel_rfl) (by kernel_rfl) (by kernel_rfl) (fun _ _ _ h => h) (Or.inl ⟨by rfl, ?hy57⟩) hS0 ?_
          case hy57 => (intro V hSw; (try dsimp only at hSw); have q0 := grow_cellO hSw.out (block_lt_of_cell s17) s17; have q1 := grow_cellO hSw.out (block_lt_of_cell k17) k17; have q2 := grow_cellO hSw.out (block_lt_of_cell e0) e0; have ql0 := Hl17.out _ hSw.out; clear hSw; go_simp; try with_reducible rfl)
          try simp only [Act.put, List.setIfInBounds_toArray, List.set_cons_zero, List.set_cons_succ]
          refine wpAnyH_take (i := 7) (oi := { dst := some 101, op := Op.lookup 60 (Operand.tmp 98) (Operand.tmp 100) false, type := 3, pos := "law.go:162", after := #[{ on := 4, ground := Ground.data }, { on := 6, ground := Ground.data }], guard := none }) (v := ?_) rfl (by kernel_rfl) (by kernel_rfl) (by kernel_rfl) (fun _ _ _ h => h) (Or.inl ⟨by rfl, ?hy58⟩) hS0 ?_
          case hy58 => (intro V hSw; (try dsimp only at hSw); have q0 := grow_cellO hSw.out (block_lt_of_cell s17) s17; have q1 := grow_cellO hSw.out (block_lt_of_cell k17) k17; have q2 := grow_cellO hSw.out (block_lt_of_cell e0) e0; have ql0 := Hl17.out _ hSw.out; clear hSw; go_simp; try with_reducible rfl)
          try simp only [Act.put, List.setIfInBounds_toArray, List.set_cons_zero, List.set_cons_succ]
          refine wpAnyH_take (i := 8) (oi := { dst := some 102, op := Op.move (Operand.tmp 8), type := 44, pos := "law.go:162", after := #[], guard := none }) (v := ?_) rfl (by kernel_rfl) (by kernel_rfl) (by kernel_rfl) (fun _ _ _ h => h) (Or.inl ⟨by rfl, ?hy59⟩) hS0 ?_
          case hy59 => (intro V hSw; (try dsimp only at hSw); clear hSw; go_simp; try with_reducible rfl)
          try simp only [Act.put, List.setIfInBounds_toArray, List.set_cons_zero, List.set_cons_succ]
          refine wpAnyH_take (i := 9) (oi := { dst := some 103, op := Op.move (Operand.tmp 9), type := 3, pos := "law.go:162", after := #[], guard := none }) (v := ?_) rfl (by kernel_rfl) (by kernel_rfl) (by kernel_rfl) (fun _ _ _ h => h) (Or.inl ⟨by rfl, ?hy60⟩) hS0 ?_
          case hy60 => (intro V hSw; (try dsimp only at hSw); clear hSw; go_simp; try with_reducible rfl)
          try simp only [Act.put, List.setIfInBounds_toArray, List.set_cons_zero, List.set_cons_succ]
          refine wpAnyH_take (i := 10) (oi := { dst := some 104, op := Op.indexAddr 44 (Operand.tmp 102) (Operand.tmp 103), type := 0, pos := "law.go:162", after := #[{ on := 8, ground := Ground.data }, { on := 9, ground := Ground.data }], guard := none }) (v := ?_) rfl (by kernel_rfl) (by kernel_rfl) (by kernel_rfl) (fun _ _ _ h => h) (Or.inl ⟨by rfl, ?hy61⟩) hS0 ?_
          case hy61 => (intro V hSw; (try dsimp only at hSw); clear hSw; go_simp; try with_reducible rfl)
          try simp only [Act.put, List.setIfInBounds_toArray, List.set_cons_zero, List.set_cons_succ]
          refine wpAnyH_take (i := 11) (oi := { dst := some 105, op := Op.load 9 (Operand.tmp 104), type := 9, pos := "law.go:162", after := #[{ on := 10, ground := Ground.data }], guard := none }) (v := ?_) rfl (by kernel_rfl) (by kernel_rfl) (by kernel_rfl) (fun _ _ _ h => h) (Or.inl ⟨by rfl, ?hy62⟩) hS0 ?_
          case hy62 => (intro V hSw; (try dsimp only at hSw); have q0 := grow_cellO hSw.out (block_lt_of_cell s17) s17; have q1 := grow_cellO hSw.out (block_lt_of_cell k17) k17; have q2 := grow_cellO hSw.out (block_lt_of_cell e0) e0; have ql0 := Hl17.out _ hSw.out; clear hSw; go_simp; try with_reducible rfl)
          try simp only [Act.put, List.setIfInBounds_toArray, List.set_cons_zero, List.set_cons_succ]
          refine wpAnyH_ready (rs := [12]) (by kernel_rfl) (by simp) (AllReadyH.cons rfl (fun K hK => ?_) AllReadyH.nil)
          go_simp
          refine (Hfi0.out _ hS0.out).mono ?_
          rintro e wv63 ⟨rfl, hv63⟩
          have hS63 := Lib.hid (hS0.out.trans (hv63.mono hS0.out.size))
          clear hv63
          refine hK.out _ _ hS63 (fun _ => ?_)
          clear hK K
          try simp only [Act.put, List.setIfInBounds_toArray, List.set_cons_zero, List.set_cons_succ]
          refine wpAnyH_take (i := 13) (oi := { dst := some 93, op := Op.move (Operand.tmp 106), type := 32, pos := "law.go:162", after := #[{ on := 12, ground := Ground.data }], guard := none }) (v := ?_) rfl (by kernel_rfl) (by kernel_rfl) (by kernel_rfl) (fun _ _ _ h => h) (Or.inl ⟨by rfl, ?hy64⟩) hS63 ?_
          case hy64 => (intro V hSw; (try dsimp only at hSw); clear hSw; go_simp; try with_reducible rfl)
          try simp only [Act.put, List.setIfInBounds_toArray, List.set_cons_zero, List.set_cons_succ]
          refine wpAnyH_take (i := 14) (oi := { dst := some 107, op := Op.extract (Operand.tmp 93) 0, type := 9, pos := "law.go:162", after := #[{ on := 13, ground := Ground.data }], guard := none }) (v := ?_) rfl (by kernel_rfl) (by kernel_rfl) (by kernel_rfl) (fun _ _ _ h => h) (Or.inl ⟨by rfl, ?hy65⟩) hS63 ?_
          case hy65 => (intro V hSw; (try dsimp only at hSw); clear hSw; go_simp; try with_reducible rfl)
          try simp only [Act.put, List.setIfInBounds_toArray, List.set_cons_zero, List.set_cons_succ]
          refine wpAnyH_take (i := 15) (oi := { dst := some 108, op := Op.extract (Operand.tmp 93) 1, type := 4, pos := "law.go:162", after := #[{ on := 13, ground := Ground.data }, { on := 16, ground := Ground.gcOnly Departure.lateStores }], guard := none }) (v := ?_) rfl (by kernel_rfl) (by kernel_rfl) (by kernel_rfl) (fun _ _ _ h => h) (Or.inl ⟨by rfl, ?hy66⟩) hS63 ?_
          case hy66 => (intro V hSw; (try dsimp only at hSw); clear hSw; go_simp; try with_reducible rfl)
          try simp only [Act.put, List.setIfInBounds_toArray, List.set_cons_zero, List.set_cons_succ]
          refine wpAnyH_take (i := 16) (oi := { dst := some 10, op := Op.assign (Operand.tmp 107), type := 9, pos := "law.go:162", after := #[{ on := 14, ground := Ground.data }, { on := 12, ground := Ground.chain }, { on := 0, ground := Ground.phase }, { on := 1, ground := Ground.phase }, { on := 2, ground := Ground.phase }, { on := 3, ground := Ground.phase }, { on := 4, ground := Ground.phase }, { on := 5, ground := Ground.phase }, { on := 6, ground := Ground.phase }, { on := 7, ground := Ground.phase }, { on := 8, ground := Ground.phase }, { on := 9, ground := Ground.phase }, { on := 10, ground := Ground.phase }, { on := 11, ground := Ground.phase }, { on := 12, ground := Ground.phase }, { on := 13, ground := Ground.phase }, { on := 14, ground := Ground.phase }, { on := 15, ground := Ground.textOnly Departure.lateStores }], guard := none }) (v := ?_) rfl (by kernel_rfl) (by kernel_rfl) (by kernel_rfl) (fun _ _ _ h => h) (Or.inl ⟨by rfl, ?hy67⟩) hS63 ?_
          case hy67 => (intro V hSw; (try dsimp only at hSw); clear hSw; go_simp; try with_reducible rfl)
          try simp only [Act.put, List.setIfInBounds_toArray, List.set_cons_zero, List.set_cons_succ]
          refine wpAnyH_ready (rs := [17]) (by kernel_rfl) (by simp) (AllReadyH.cons rfl (fun K hK => ?_) AllReadyH.nil)
          go_simp
          refine hK.out _ _ hS63 (fun _ => ?_)
          clear hK K
          try simp only [Act.put, List.setIfInBounds_toArray, List.set_cons_zero, List.set_cons_succ]
          refine wpAnyH_done (by kernel_rfl) ?_ _
          have HzE := Lib.hid (blk_bels hS63.out Hz2.out)
          have HXE := Lib.hid (HX2.out.bel hS63.out)
          have HkE := Lib.hid (Hk2.out.trans (KeepD.of_below hS63.out))
          have HbE := Lib.hid (Hb2.out.trans (hS63.out.mono (Nat.le_trans Hlo.out Hw2.out)))
          have e1 := grow_cellO hS63.out (block_lt_of_cell e0) e0
          clear e0 s17 k17
          have z0 := (cell_of_blk HzE.out 0).trans (show _ = some (.int .i64 0) from rfl)
          have z1 := (cell_of_blk HzE.out 1).trans (show _ = some (.string ⟨#[]⟩) from rfl)
          have z2 := (cell_of_blk HzE.out 2).trans (show _ = some (.string ⟨#[]⟩) from rfl)
          have f0 := frozen_of_blk HzE.out 0
          have f1 := frozen_of_blk HzE.out 1
          have f2 := frozen_of_blk HzE.out 2
          have g1 : ((wv63.setCell ⟨W.heap.size + 1, 0, none⟩ (.int .i64 1)).heap[W.heap.size + 1]? = some (.cells #[.int .i64 1, .string ⟨#[]⟩, .string ⟨#[]⟩] 40 (0, 0))) := (blk_set HzE.out).trans rfl
          have g2 : (((wv63.setCell ⟨W.heap.size + 1, 0, none⟩ (.int .i64 1)).setCell ⟨W.heap.size + 1, 1, none⟩ (.string u)).heap[W.heap.size + 1]? = some (.cells #[.int .i64 1, .string u, .string ⟨#[]⟩] 40 (0, 0))) := (blk_set g1).trans rfl
          have hfx := ((HXE.out.for (KeptDoc.setOp (i := 0) (x := .int .i64 1) HzE.out)).for (KeptDoc.setOp (i := 1) (x := .string u) g1)).for (KeptDoc.setOp (i := 2) (x := .string vv) g2)
          have hfk := ((HkE.out.new (i := 0) (x := .int .i64 1) (Nat.le_succ W.heap.size)).new (i := 1) (x := .string u) (Nat.le_succ W.heap.size)).new (i := 2) (x := .string vv) (Nat.le_succ W.heap.size)
          have hlz : lo ≤ W.heap.size + 1 := Nat.le_succ_of_le Hlo.out
          have hfb := ((HbE.out.setCell (p := ⟨W.heap.size + 1, 0, none⟩) hlz (.int .i64 1)).setCell (p := ⟨W.heap.size + 1, 1, none⟩) hlz (.string u)).setCell (p := ⟨W.heap.size + 1, 2, none⟩) hlz (.string vv)
          have Fin := Lib.hid (smove_end (T := T) (zt := zt) HX.out hfx hfk hfb Hq.out Hmv.out.1 Hmv.out.2.1 Hmx.out)
          clear g1 g2 hfx hfk hfb hlz
          go_wp2_with fail
          refine bodyPost_ret (v := .tuple #[.agg #[.int .i64 1, .string u, .string vv], .bool true]) (by simp [results, Try.results42, go_sem, z0, z1, z2]) rfl ?_
          exact Fin.out
  · by_cases hpc : p < 0
    · -- how = 4
      have pm : ¬ 0 ≤ p := by omega
      have pe : p = -1 := by omega
      have Hpe := Lib.hid pe
      clear pe
      skip
      have Hq : Hid (MvEq (outO F ks) (p) (mvQ (outO F ks) 4 p key)) := Lib.hid (by rw [show mvQ (outO F ks) 4 p key = p by rw [Hpe.out]; rfl]; exact MvEq.rfl' _ _)
      go_upto_region 13 with fail
      have Hmv := Lib.hid (mv_out (l := outO F ks) (q := p) (.inl (by omega)))
      go_upto_region 14 with fail
      have sX2 := (cell_of_blk HXX.out.st 2).trans (show _ = some (.map (some as_)) from rfl)
      have kX1 := (cell_of_blk HcX.out 1).trans (show _ = some (.int .i64 a) from rfl)
      obtain ⟨W2, hput, hT2, hg2⟩ := (show OwnsF snT X.drew as_ T zt from HXX.out.at_.of_blk rfl).put a (-1) Hw.out (show (Lit.int .i64 (-1)).wf = true by decide) (by unfold maxLen; omega)
      rw [HT.out] at hT2
      have hg2' : X.grownBy W2 (some as_) := ⟨hg2.os, hg2.tape, hg2.output, hg2.size, hg2.block⟩
      have hmap := HXX.out.at_.map
      have hlx : lo ≤ X.heap.size := Nat.le_trans Hlo.out HbX.out.size
      have HX2 : Hid (XS W2 lo base xb sb most rx ss is_ as_ hd S zs N zi (updF T a (some (-1))) zt) := Lib.hid (HXX.out.putT hg2' hT2)
      have Hk2 := Lib.hid (HkX.out.trans (KeepD.map (ss := ss) (is_ := is_) hg2' hmap (.inr (.inr rfl))))
      have Hb2 := Lib.hid ((HbX.out.mono Hlo.out).trans (grown_below hg2' HXX.out.l3 hlx))
      have Hc2 := Lib.hid (KeptTy.map hg2' hmap _ _ _ HcX.out)
      have Hz2 := Lib.hid (KeptTy.map hg2' hmap _ _ _ HzX.out)
      have Hw2 := Lib.hid (Nat.le_trans HbX.out.size hg2'.size)
      clear hT2 hg2 hg2' hmap hlx
      go_still_tail 6, (by kernel_rfl)
      change wpList _ _ _ _ _ X.drew
      refine wpList_mapput rfl _ _ _ _ rfl rfl rfl rfl hput ?_
      clear hput sX2 kX1
      have HzE := Hz2
      have HXE := HX2
      have HkE := Hk2
      have HbE := Hb2
      have z0 := (cell_of_blk HzE.out 0).trans (show _ = some (.int .i64 0) from rfl)
      have z1 := (cell_of_blk HzE.out 1).trans (show _ = some (.string ⟨#[]⟩) from rfl)
      have z2 := (cell_of_blk HzE.out 2).trans (show _ = some (.string ⟨#[]⟩) from rfl)
      have f0 := frozen_of_blk HzE.out 0
      have f1 := frozen_of_blk HzE.out 1
      have f2 := frozen_of_blk HzE.out 2
      have g1 : ((W2.setCell ⟨W.heap.size + 1, 0, none⟩ (.int .i64 0)).heap[W.heap.size + 1]? = some (.cells #[.int .i64 0, .string ⟨#[]⟩, .string ⟨#[]⟩] 40 (0, 0))) := (blk_set HzE.out).trans rfl
      have g2 : (((W2.setCell ⟨W.heap.size + 1, 0, none⟩ (.int .i64 0)).setCell ⟨W.heap.size + 1, 1, none⟩ (.string ⟨#[]⟩)).heap[W.heap.size + 1]? = some (.cells #[.int .i64 0, .string ⟨#[]⟩, .string ⟨#[]⟩] 40 (0, 0))) := (blk_set g1).trans rfl
      have hfx := ((HXE.out.for (KeptDoc.setOp (i := 0) (x := .int .i64 0) HzE.out)).for (KeptDoc.setOp (i := 1) (x := .string ⟨#[]⟩) g1)).for (KeptDoc.setOp (i := 2) (x := .string ⟨#[]⟩) g2)
      have hfk := ((HkE.out.new (i := 0) (x := .int .i64 0) (Nat.le_succ W.heap.size)).new (i := 1) (x := .string ⟨#[]⟩) (Nat.le_succ W.heap.size)).new (i := 2) (x := .string ⟨#[]⟩) (Nat.le_succ W.heap.size)
      have hlz : lo ≤ W.heap.size + 1 := Nat.le_succ_of_le Hlo.out
      have hfb := ((HbE.out.setCell (p := ⟨W.heap.size + 1, 0, none⟩) hlz (.int .i64 0)).setCell (p := ⟨W.heap.size + 1, 1, none⟩) hlz (.string ⟨#[]⟩)).setCell (p := ⟨W.heap.size + 1, 2, none⟩) hlz (.string ⟨#[]⟩)
      have Fin := Lib.hid (smove_end (T := T) (zt := zt) HX.out hfx hfk hfb Hq.out Hmv.out.1 Hmv.out.2.1 Hmv.out.2.2)
      clear g1 g2 hfx hfk hfb hlz
      go_wp2_with fail
      refine bodyPost_ret (v := .tuple #[.agg #[.int .i64 0, .string ⟨#[]⟩, .string ⟨#[]⟩], .bool false]) (by simp [results, Try.results42, go_sem, z0, z1, z2]) rfl ?_
      exact Fin.out
    · -- how = 4
      have pm : 0 ≤ p := by omega
      skip
      have Hq : Hid (MvEq (outO F ks) (p - 1) (mvQ (outO F ks) 4 p key)) := Lib.hid (by rw [show mvQ (outO F ks) 4 p key = p - 1 by unfold mvQ; rw [if_neg (by decide), if_neg (by decide), if_neg (by decide), if_pos rfl, if_neg (by omega)]]; exact MvEq.rfl' _ _)
      go_upto_region 13 with fail
      by_cases hq0 : p - 1 < 0
      · have Hmv := Lib.hid (mv_out (l := outO F ks) (q := p - 1) (.inl hq0))
        go_upto_region 14 with fail
        have sX2 := (cell_of_blk HXX.out.st 2).trans (show _ = some (.map (some as_)) from rfl)
        have kX1 := (cell_of_blk HcX.out 1).trans (show _ = some (.int .i64 a) from rfl)
        obtain ⟨W2, hput, hT2, hg2⟩ := (show OwnsF snT X.drew as_ T zt from HXX.out.at_.of_blk rfl).put a (-1) Hw.out (show (Lit.int .i64 (-1)).wf = true by decide) (by unfold maxLen; omega)
        rw [HT.out] at hT2
        have hg2' : X.grownBy W2 (some as_) := ⟨hg2.os, hg2.tape, hg2.output, hg2.size, hg2.block⟩
        have hmap := HXX.out.at_.map
        have hlx : lo ≤ X.heap.size := Nat.le_trans Hlo.out HbX.out.size
        have HX2 : Hid (XS W2 lo base xb sb most rx ss is_ as_ hd S zs N zi (updF T a (some (-1))) zt) := Lib.hid (HXX.out.putT hg2' hT2)
        have Hk2 := Lib.hid (HkX.out.trans (KeepD.map (ss := ss) (is_ := is_) hg2' hmap (.inr (.inr rfl))))
        have Hb2 := Lib.hid ((HbX.out.mono Hlo.out).trans (grown_below hg2' HXX.out.l3 hlx))
        have Hc2 := Lib.hid (KeptTy.map hg2' hmap _ _ _ HcX.out)
        have Hz2 := Lib.hid (KeptTy.map hg2' hmap _ _ _ HzX.out)
        have Hw2 := Lib.hid (Nat.le_trans HbX.out.size hg2'.size)
        clear hT2 hg2 hg2' hmap hlx
        go_still_tail 6, (by kernel_rfl)
        change wpList _ _ _ _ _ X.drew
        refine wpList_mapput rfl _ _ _ _ rfl rfl rfl rfl hput ?_
        clear hput sX2 kX1
        have HzE := Hz2
        have HXE := HX2
        have HkE := Hk2
        have HbE := Hb2
        have z0 := (cell_of_blk HzE.out 0).trans (show _ = some (.int .i64 0) from rfl)
        have z1 := (cell_of_blk HzE.out 1).trans (show _ = some (.string ⟨#[]⟩) from rfl)
        have z2 := (cell_of_blk HzE.out 2).trans (show _ = some (.string ⟨#[]⟩) from rfl)
        have f0 := frozen_of_blk HzE.out 0
        have f1 := frozen_of_blk HzE.out 1
        have f2 := frozen_of_blk HzE.out 2
        have g1 : ((W2.setCell ⟨W.heap.size + 1, 0, none⟩ (.int .i64 0)).heap[W.heap.size + 1]? = some (.cells #[.int .i64 0, .string ⟨#[]⟩, .string ⟨#[]⟩] 40 (0, 0))) := (blk_set HzE.out).trans rfl
        have g2 : (((W2.setCell ⟨W.heap.size + 1, 0, none⟩ (.int .i64 0)).setCell ⟨W.heap.size + 1, 1, none⟩ (.string ⟨#[]⟩)).heap[W.heap.size + 1]? = some (.cells #[.int .i64 0, .string ⟨#[]⟩, .string ⟨#[]⟩] 40 (0, 0))) := (blk_set g1).trans rfl
        have hfx := ((HXE.out.for (KeptDoc.setOp (i := 0) (x := .int .i64 0) HzE.out)).for (KeptDoc.setOp (i := 1) (x := .string ⟨#[]⟩) g1)).for (KeptDoc.setOp (i := 2) (x := .string ⟨#[]⟩) g2)
        have hfk := ((HkE.out.new (i := 0) (x := .int .i64 0) (Nat.le_succ W.heap.size)).new (i := 1) (x := .string ⟨#[]⟩) (Nat.le_succ W.heap.size)).new (i := 2) (x := .string ⟨#[]⟩) (Nat.le_succ W.heap.size)
        have hlz : lo ≤ W.heap.size + 1 := Nat.le_succ_of_le Hlo.out
        have hfb := ((HbE.out.setCell (p := ⟨W.heap.size + 1, 0, none⟩) hlz (.int .i64 0)).setCell (p := ⟨W.heap.size + 1, 1, none⟩) hlz (.string ⟨#[]⟩)).setCell (p := ⟨W.heap.size + 1, 2, none⟩) hlz (.string ⟨#[]⟩)
        have Fin := Lib.hid (smove_end (T := T) (zt := zt) HX.out hfx hfk hfb Hq.out Hmv.out.1 Hmv.out.2.1 Hmv.out.2.2)
        clear g1 g2 hfx hfk hfb hlz
        go_wp2_with fail
        refine bodyPost_ret (v := .tuple #[.agg #[.int .i64 0, .string ⟨#[]⟩, .string ⟨#[]⟩], .bool false]) (by simp [results, Try.results42, go_sem, z0, z1, z2]) rfl ?_
        exact Fin.out
      · by_cases hqn : (kn : Int) ≤ p - 1
        · exfalso; omega
        · obtain ⟨i, hi⟩ : ∃ i : Nat, p - 1 = (i : Int) := ⟨(p - 1).toNat, by omega⟩
          rw [hi] at Hq ⊢
          have hik : i < kn := by omega
          obtain ⟨y, hy⟩ : ∃ y, ks[i]? = some y := ⟨_, List.getElem?_eq_getElem (by rw [← Hkn.out]; exact hik)⟩
          have hmv := mv_in (l := outO F ks) (i := i) (outO_at (F := F) hy)
          have hsome := (Hks.out.iff y (Hks.out.le y (List.mem_of_getElem? hy))).1 (List.mem_of_getElem? hy)
          have hvy : valO F y = (findL (ba y) all).1 := by
            unfold valO
            rw [HF.out, foldF_is] at hsome ⊢
            cases q : (findL (ba y) all).2 with
            | true => rw [if_pos rfl]; rfl
            | false => rw [q] at hsome; cases hsome
          obtain ⟨g, rfl, hgl, hce⟩ := own_str (by have := HstX.out; unfold OwnSt at this; rw [← Hkn.out] at this; exact this) Hkn.out.symm (by omega)
          have e00 := hce i y hy
          obtain ⟨u, hu⟩ : ∃ u, u = ba y := ⟨_, rfl⟩
          obtain ⟨⟨vv, isb⟩, hvv⟩ : ∃ r, r = findL u all := ⟨_, rfl⟩
          rw [← hu] at e00
          have Hmv : Hid (mvIn (outO F ks) (i : Int) = true ∧ mvP (outO F ks) (i : Int) = (i : Int) ∧ mvX (outO F ks) (i : Int) = ⟨1, ba y, valO F y⟩) := Lib.hid hmv
          have Hmx : Hid (mvX (outO F ks) (i : Int) = ⟨1, u, vv⟩) := Lib.hid (by rw [Hmv.out.2.2, hvy, ← hu, ← hvv])
          have Hvv := Lib.hid hvv
          have hki : ((0 : Nat) : Int) ≤ (i : Int) ∧ (i : Int) < (kn : Int) := by omega
          clear hmv hsome hvy hu hvv hce hy
          go_upto_region 16 with fail
          have sX2 := (cell_of_blk HXX.out.st 2).trans (show _ = some (.map (some as_)) from rfl)
          have kX1 := (cell_of_blk HcX.out 1).trans (show _ = some (.int .i64 a) from rfl)
          obtain ⟨W2, hput, hT2, hg2⟩ := (show OwnsF snT X.drew as_ T zt from HXX.out.at_.of_blk rfl).put a ((i : Int)) Hw.out (WalkArith.wf_i64 (by omega)) (by unfold maxLen; omega)
          rw [HT.out] at hT2
          have hg2' : X.grownBy W2 (some as_) := ⟨hg2.os, hg2.tape, hg2.output, hg2.size, hg2.block⟩
          have hmap := HXX.out.at_.map
          have hlx : lo ≤ X.heap.size := Nat.le_trans Hlo.out HbX.out.size
          have HX2 : Hid (XS W2 lo base xb sb most rx ss is_ as_ hd S zs N zi (updF T a (some ((i : Int)))) zt) := Lib.hid (HXX.out.putT hg2' hT2)
          have Hk2 := Lib.hid (HkX.out.trans (KeepD.map (ss := ss) (is_ := is_) hg2' hmap (.inr (.inr rfl))))
          have Hb2 := Lib.hid ((HbX.out.mono Hlo.out).trans (grown_below hg2' HXX.out.l3 hlx))
          have Hc2 := Lib.hid (KeptTy.map hg2' hmap _ _ _ HcX.out)
          have Hz2 := Lib.hid (KeptTy.map hg2' hmap _ _ _ HzX.out)
          have Hw2 := Lib.hid (Nat.le_trans HbX.out.size hg2'.size)
          have e0 : W2.cell? ⟨g, i, none⟩ = some (.string u) := grow_over hg2' hmap e00
          clear hT2 hg2 hg2' hmap hlx
          go_still_tail 7, (by kernel_rfl)
          change wpList _ _ _ _ _ X.drew
          refine wpList_mapput rfl _ _ _ _ rfl rfl rfl rfl hput ?_
          clear hput sX2 kX1 e00
          go_upto_region 17 with fail
          have s17 := (cell_of_blk HX2.out.st 1).trans (show _ = some (.map (some is_)) from rfl)
          have k17 := (cell_of_blk Hc2.out 1).trans (show _ = some (.int .i64 a) from rfl)
          have Hl17 := Lib.hid (fun (A : World) (hA : Below W2.heap.size W2 A) => Hli2.out A (HX2.out.it.below hA))
          have Hfi0 := Lib.hid (fun (A : World) (hA : Below W2.heap.size W2 A) => Hfi.out u A (HX2.out.xo.bel hA))
          rw [← Hvv.out] at Hfi0
          refine wp_region_held_drew (S := fun V' => Hid (Below W2.heap.size W2 V')) (by kernel_rfl) (Lib.hid ((Below.refl _ _).drew)) (fun hS0 => ?_)
          refine wpAnyH_take (i := 0) (oi := { dst := some 94, op := Op.move (Operand.tmp 1), type := 26, pos := "law.go:162", after := #[], guard := none }) (v := ?_) rfl (by kernel_rfl) (by kernel_rfl) (by kernel_rfl) (fun _ _ _ h => h) (Or.inl ⟨by rfl, ?hy68⟩) hS0 ?_
          case hy68 => (intro V hSw; (try dsimp only at hSw); clear hSw; go_simp; try with_reducible rfl)
          try simp only [Act.put, List.setIfInBounds_toArray, List.set_cons_zero, List.set_cons_succ]
          refine wpAnyH_take (i := 1) (oi := { dst := some 95, op := Op.move (Operand.tmp 0), type := 59, pos := "law.go:162", after := #[], guard := none }) (v := ?_) rfl (by kernel_rfl) (by kernel_rfl) (by kernel_rfl) (fun _ _ _ h => h) (Or.inl ⟨by rfl, ?hy69⟩) hS0 ?_
          case hy69 => (intro V hSw; (try dsimp only at hSw); clear hSw; go_simp; try with_reducible rfl)
          try simp only [Act.put, List.setIfInBounds_toArray, List.set_cons_zero, List.set_cons_succ]
          refine wpAnyH_take (i := 2) (oi := { dst := some 96, op := Op.nilCheck (Operand.tmp 95), type := 0, pos := "law.go:162", after := #[{ on := 1, ground := Ground.data }], guard := none }) (v := ?_) rfl (by kernel_rfl) (by kernel_rfl) (by kernel_rfl) (fun _ _ _ h => h) (Or.inl ⟨by rfl, ?hy70⟩) hS0 ?_
          case hy70 => (intro V hSw; (try dsimp only at hSw); clear hSw; go_simp; try with_reducible rfl)
          try simp only [Act.put, List.setIfInBounds_toArray, List.set_cons_zero, List.set_cons_succ]
          refine wpAnyH_take (i := 3) (oi := { dst := some 97, op := Op.fieldAddr 62 (Operand.tmp 96) 1, type := 0, pos := "law.go:162", after := #[{ on := 2, ground := Ground.data }], guard := none }) (v := ?_) rfl (by kernel_rfl) (by kernel_rfl) (by kernel_rfl) (fun _ _ _ h => h) (Or.inl ⟨by rfl, ?hy71⟩) hS0 ?_
          case hy71 => (intro V hSw; (try dsimp only at hSw); clear hSw; go_simp; try with_reducible rfl)
          try simp only [Act.put, List.setIfInBounds_toArray, List.set_cons_zero, List.set_cons_succ]
          refine wpAnyH_take (i := 4) (oi := { dst := some 98, op := Op.load 60 (Operand.tmp 97), type := 60, pos := "law.go:162", after := #[{ on := 3, ground := Ground.data }], guard := none }) (v := ?_) rfl (by kernel_rfl) (by kernel_rfl) (by kernel_rfl) (fun _ _ _ h => h) (Or.inl ⟨by rfl, ?hy72⟩) hS0 ?_
          case hy72 => (intro V hSw; (try dsimp only at hSw); have q0 := grow_cellO hSw.out (block_lt_of_cell s17) s17; have q1 := grow_cellO hSw.out (block_lt_of_cell k17) k17; have q2 := grow_cellO hSw.out (block_lt_of_cell e0) e0; have ql0 := Hl17.out _ hSw.out; clear hSw; go_simp; try with_reducible rfl)
          try simp only [Act.put, List.setIfInBounds_toArray, List.set_cons_zero, List.set_cons_succ]
          refine wpAnyH_take (i := 5) (oi := { dst := some 99, op := Op.fieldAddr 64 (Operand.tmp 5) 1, type := 0, pos := "law.go:162", after := #[], guard := none }) (v := ?_) rfl (by kernel_rfl) (by kernel_rfl) (by kernel_rfl) (fun _ _ _ h => h) (Or.inl ⟨by rfl, ?hy73⟩) hS0 ?_
          case hy73 => (intro V hSw; (try dsimp only at hSw); clear hSw; go_simp; try with_reducible rfl)
          try simp only [Act.put, List.setIfInBounds_toArray, List.set_cons_zero, List.set_cons_succ]
          refine wpAnyH_take (i := 6) (oi := { dst := some 100, op := Op.load 3 (Operand.tmp 99), type := 3, pos := "law.go:162", after := #[{ on := 5, ground := Ground.data }], guard := none }) (v := ?_) rfl (by kernel_rfl) (by kernel_rfl) (by kernel_rfl) (fun _ _ _ h => h) (Or.inl ⟨by rfl, ?hy74⟩) hS0 ?_
          case hy74 => (intro V hSw; (try dsimp only at hSw); have q0 := grow_cellO hSw.out (block_lt_of_cell s17) s17; have q1 := grow_cellO hSw.out (block_lt_of_cell k17) k17; have q2 := grow_cellO hSw.out (block_lt_of_cell e0) e0; have ql0 := Hl17.out _ hSw.out; clear hSw; go_simp; try with_reducible rfl)
          try simp only [Act.put, List.setIfInBounds_toArray, List.set_cons_zero, List.set_cons_succ]
          refine wpAnyH_take (i := 7) (oi := { dst := some 101, op := Op.lookup 60 (Operand.tmp 98) (Operand.tmp 100) false, type := 3, pos := "law.go:162", after := #[{ on := 4, ground := Ground.data }, { on := 6, ground := Ground.data }], guard := none }) (v := ?_) rfl (by kernel_rfl) (by kernel_rfl) (by kernel_rfl) (fun _ _ _ h => h) (Or.inl ⟨by rfl, ?hy75⟩) hS0 ?_
          case hy75 => (intro V hSw; (try dsimp only at hSw); have q0 := grow_cellO hSw.out (block_lt_of_cell s17) s17; have q1 := grow_cellO hSw.out (block_lt_of_cell k17) k17; have q2 := grow_cellO hSw.out (block_lt_of_cell e0) e0; have ql0 := Hl17.out _ hSw.out; clear hSw; go_simp; try with_reducible rfl)
          try simp only [Act.put, List.setIfInBounds_toArray, List.set_cons_zero, List.set_cons_succ]
          refine wpAnyH_take (i := 8) (oi := { dst := some 102, op := Op.move (Operand.tmp 8), type := 44, pos := "law.go:162", after := #[], guard := none }) (v := ?_) rfl (by kernel_rfl) (by kernel_rfl) (by kernel_rfl) (fun _ _ _ h => h) (Or.inl ⟨by rfl, ?hy76⟩) hS0 ?_
          case hy76 => (intro V hSw; (try dsimp only at hSw); clear hSw; go_simp; try with_reducible rfl)
          try simp only [Act.put, List.setIfInBounds_toArray, List.set_cons_zero, List.set_cons_succ]
          refine wpAnyH_take (i := 9) (oi := { dst := some 103, op := Op.move (Operand.tmp 9), type := 3, pos := "law.go:162", after := #[], guard := none }) (v := ?_) rfl (by kernel_rfl) (by kernel_rfl) (by kernel_rfl) (fun _ _ _ h => h) (Or.inl ⟨by rfl, ?hy77⟩) hS0 ?_
          case hy77 => (intro V hSw; (try dsimp only at hSw); clear hSw; go_simp; try with_reducible rfl)
          try simp only [Act.put, List.setIfInBounds_toArray, List.set_cons_zero, List.set_cons_succ]
          refine wpAnyH_take (i := 10) (oi := { dst := some 104, op := Op.indexAddr 44 (Operand.tmp 102) (Operand.tmp 103), type := 0, pos := "law.go:162", after := #[{ on := 8, ground := Ground.data }, { on := 9, ground := Ground.data }], guard := none }) (v := ?_) rfl (by kernel_rfl) (by kernel_rfl) (by kernel_rfl) (fun _ _ _ h => h) (Or.inl ⟨by rfl, ?hy78⟩) hS0 ?_
          case hy78 => (intro V hSw; (try dsimp only at hSw); clear hSw; go_simp; try with_reducible rfl)
          try simp only [Act.put, List.setIfInBounds_toArray, List.set_cons_zero, List.set_cons_succ]
          refine wpAnyH_take (i := 11) (oi := { dst := some 105, op := Op.load 9 (Operand.tmp 104), type := 9, pos := "law.go:162", after := #[{ on := 10, ground := Ground.data }], guard := none }) (v := ?_) rfl (by kernel_rfl) (by kernel_rfl) (by kernel_rfl) (fun _ _ _ h => h) (Or.inl ⟨by rfl, ?hy79⟩) hS0 ?_
          case hy79 => (intro V hSw; (try dsimp only at hSw); have q0 := grow_cellO hSw.out (block_lt_of_cell s17) s17; have q1 := grow_cellO hSw.out (block_lt_of_cell k17) k17; have q2 := grow_cellO hSw.out (block_lt_of_cell e0) e0; have ql0 := Hl17.out _ hSw.out; clear hSw; go_simp; try with_reducible rfl)
          try simp only [Act.put, List.setIfInBounds_toArray, List.set_cons_zero, List.set_cons_succ]
          refine wpAnyH_ready (rs := [12]) (by kernel_rfl) (by simp) (AllReadyH.cons rfl (fun K hK => ?_) AllReadyH.nil)
          go_simp
          refine (Hfi0.out _ hS0.out).mono ?_
          rintro e wv80 ⟨rfl, hv80⟩
          have hS80 := Lib.hid (hS0.out.trans (hv80.mono hS0.out.size))
          clear hv80
          refine hK.out _ _ hS80 (fun _ => ?_)
          clear hK K
          try simp only [Act.put, List.setIfInBounds_toArray, List.set_cons_zero, List.set_cons_succ]
          refine wpAnyH_take (i := 13) (oi := { dst := some 93, op := Op.move (Operand.tmp 106), type := 32, pos := "law.go:162", after := #[{ on := 12, ground := Ground.data }], guard := none }) (v := ?_) rfl (by kernel_rfl) (by kernel_rfl) (by kernel_rfl) (fun _ _ _ h => h) (Or.inl ⟨by rfl, ?hy81⟩) hS80 ?_
          case hy81 => (intro V hSw; (try dsimp only at hSw); clear hSw; go_simp; try with_reducible rfl)
          try simp only [Act.put, List.setIfInBounds_toArray, List.set_cons_zero, List.set_cons_succ]
          refine wpAnyH_take (i := 14) (oi := { dst := some 107, op := Op.extract (Operand.tmp 93) 0, type := 9, pos := "law.go:162", after := #[{ on := 13, ground := Ground.data }], guard := none }) (v := ?_) rfl (by kernel_rfl) (by kernel_rfl) (by kernel_rfl) (fun _ _ _ h => h) (Or.inl ⟨by rfl, ?hy82⟩) hS80 ?_
          case hy82 => (intro V hSw; (try dsimp only at hSw); clear hSw; go_simp; try with_reducible rfl)
          try simp only [Act.put, List.setIfInBounds_toArray, List.set_cons_zero, List.set_cons_succ]
          refine wpAnyH_take (i := 15) (oi := { dst := some 108, op := Op.extract (Operand.tmp 93) 1, type := 4, pos := "law.go:162", after := #[{ on := 13, ground := Ground.data }, { on := 16, ground := Ground.gcOnly Departure.lateStores }], guard := none }) (v := ?_) rfl (by kernel_rfl) (by kernel_rfl) (by kernel_rfl) (fun _ _ _ h => h) (Or.inl ⟨by rfl, ?hy83⟩) hS80 ?_
          case hy83 => (intro V hSw; (try dsimp only at hSw); clear hSw; go_simp; try with_reducible rfl)
          try simp only [Act.put, List.setIfInBounds_toArray, List.set_cons_zero, List.set_cons_succ]
          refine wpAnyH_take (i := 16) (oi := { dst := some 10, op := Op.assign (Operand.tmp 107), type := 9, pos := "law.go:162", after := #[{ on := 14, ground := Ground.data }, { on := 12, ground := Ground.chain }, { on := 0, ground := Ground.phase }, { on := 1, ground := Ground.phase }, { on := 2, ground := Ground.phase }, { on := 3, ground := Ground.phase }, { on := 4, ground := Ground.phase }, { on := 5, ground := Ground.phase }, { on := 6, ground := Ground.phase }, { on := 7, ground := Ground.phase }, { on := 8, ground := Ground.phase }, { on := 9, ground := Ground.phase }, { on := 10, ground := Ground.phase }, { on := 11, ground := Ground.phase }, { on := 12, ground := Ground.phase }, { on := 13, ground := Ground.phase }, { on := 14, ground := Ground.phase }, { on := 15, ground := Ground.textOnly Departure.lateStores }], guard := none }) (v := ?_) rfl (by kernel_rfl) (by kernel_rfl) (by kernel_rfl) (fun _ _ _ h => h) (Or.inl ⟨by rfl, ?hy84⟩) hS80 ?_
          case hy84 => (intro V hSw; (try dsimp only at hSw); clear hSw; go_simp; try with_reducible rfl)
          try simp only [Act.put, List.setIfInBounds_toArray, List.set_cons_zero, List.set_cons_succ]
          refine wpAnyH_ready (rs := [17]) (by kernel_rfl) (by simp) (AllReadyH.cons rfl (fun K hK => ?_) AllReadyH.nil)
          go_simp
          refine hK.out _ _ hS80 (fun _ => ?_)
          clear hK K
          try simp only [Act.put, List.setIfInBounds_toArray, List.set_cons_zero, List.set_cons_succ]
          refine wpAnyH_done (by kernel_rfl) ?_ _
          have HzE := Lib.hid (blk_bels hS80.out Hz2.out)
          have HXE := Lib.hid (HX2.out.bel hS80.out)
          have HkE := Lib.hid (Hk2.out.trans (KeepD.of_below hS80.out))
          have HbE := Lib.hid (Hb2.out.trans (hS80.out.mono (Nat.le_trans Hlo.out Hw2.out)))
          have e1 := grow_cellO hS80.out (block_lt_of_cell e0) e0
          clear e0 s17 k17
          have z0 := (cell_of_blk HzE.out 0).trans (show _ = some (.int .i64 0) from rfl)
          have z1 := (cell_of_blk HzE.out 1).trans (show _ = some (.string ⟨#[]⟩) from rfl)
          have z2 := (cell_of_blk HzE.out 2).trans (show _ = some (.string ⟨#[]⟩) from rfl)
          have f0 := frozen_of_blk HzE.out 0
          have f1 := frozen_of_blk HzE.out 1
          have f2 := frozen_of_blk HzE.out 2
          have g1 : ((wv80.setCell ⟨W.heap.size + 1, 0, none⟩ (.int .i64 1)).heap[W.heap.size + 1]? = some (.cells #[.int .i64 1, .string ⟨#[]⟩, .string ⟨#[]⟩] 40 (0, 0))) := (blk_set HzE.out).trans rfl
          have g2 : (((wv80.setCell ⟨W.heap.size + 1, 0, none⟩ (.int .i64 1)).setCell ⟨W.heap.size + 1, 1, none⟩ (.string u)).heap[W.heap.size + 1]? = some (.cells #[.int .i64 1, .string u, .string ⟨#[]⟩] 40 (0, 0))) := (blk_set g1).trans rfl
          have hfx := ((HXE.out.for (KeptDoc.setOp (i := 0) (x := .int .i64 1) HzE.out)).for (KeptDoc.setOp (i := 1) (x := .string u) g1)).for (KeptDoc.setOp (i := 2) (x := .string vv) g2)
          have hfk := ((HkE.out.new (i := 0) (x := .int .i64 1) (Nat.le_succ W.heap.size)).new (i := 1) (x := .string u) (Nat.le_succ W.heap.size)).new (i := 2) (x := .string vv) (Nat.le_succ W.heap.size)
          have hlz : lo ≤ W.heap.size + 1 := Nat.le_succ_of_le Hlo.out
          have hfb := ((HbE.out.setCell (p := ⟨W.heap.size + 1, 0, none⟩) hlz (.int .i64 1)).setCell (p := ⟨W.heap.size + 1, 1, none⟩) hlz (.string u)).setCell (p := ⟨W.heap.size + 1, 2, none⟩) hlz (.string vv)
          have Fin := Lib.hid (smove_end (T := T) (zt := zt) HX.out hfx hfk hfb Hq.out Hmv.out.1 Hmv.out.2.1 Hmx.out)
          clear g1 g2 hfx hfk hfb hlz
          go_wp2_with fail
          refine bodyPost_ret (v := .tuple #[.agg #[.int .i64 1, .string u, .string vv], .bool true]) (by simp [results, Try.results42, go_sem, z0, z1, z2]) rfl ?_
          exact Fin.out
  · -- how = 5
    skip
    have hwi := within_any (.slice va kn vc) ks key ⟨#[]⟩ _ X HstX.out (by rw [← Hkn.out]; exact hkl) Hks.out.le Hky.out (by decide)
    have Hwi := Lib.hid hwi
    clear hwi
    go_wp2_with fail
    refine Hwi.out.mono ?_
    rintro e X2 ⟨v2, rfl, hst2, hb2⟩
    obtain ⟨a2, c2, rfl⟩ := own_slice hst2
    have HXX2 := Lib.hid (HXX.out.bel hb2)
    have HcX2 := Lib.hid (blk_bels hb2 HcX.out)
    have HzX2 := Lib.hid (blk_bels hb2 HzX.out)
    have HbX2 := Lib.hid (HbX.out.trans (hb2.mono HbX.out.size))
    have HkX2 := Lib.hid (HkX.out.trans (KeepD.of_below hb2))
    have HstX2 := Lib.hid (HstX.out.below hb2)
    have Hfive := Lib.hid (mv_five Hks.out key)
    rw [← Hkn.out] at Hfive
    have hcl : (ks.filter (inR key ⟨#[]⟩)).length ≤ kn := by rw [Hkn.out]; exact List.length_filter_le _ _
    obtain ⟨cn, hcn⟩ : ∃ q, q = (ks.filter (inR key ⟨#[]⟩)).length := ⟨_, rfl⟩
    rw [← hcn] at Hfive hcl ⊢
    clear hst2 hb2 hcn HXX HcX HzX HbX HkX HstX Hwi kk1 kk2 kk3
    obtain ⟨X, rfl⟩ : ∃ Y, Y = X2 := ⟨_, rfl⟩
    have HXX := HXX2
    have HcX := HcX2
    have HzX := HzX2
    have HbX := HbX2
    have HkX := HkX2
    have HstX := HstX2
    clear HXX2 HcX2 HzX2 HbX2 HkX2 HstX2
    have Hq : Hid (MvEq (outO F ks) ((kn : Int) - (cn : Int)) (mvQ (outO F ks) 5 p key)) := Lib.hid (Hfive.out)
    go_upto_region 13 with fail
    by_cases hq0 : (kn : Int) - (cn : Int) < 0
    · exfalso; omega
    · by_cases hqn : (kn : Int) ≤ (kn : Int) - (cn : Int)
      · have Hmv := Lib.hid (mv_out (l := outO F ks) (q := (kn : Int) - (cn : Int)) (.inr (by rw [outO_len, ← Hkn.out]; exact hqn)))
        go_upto_region 14 with fail
        have sX2 := (cell_of_blk HXX.out.st 2).trans (show _ = some (.map (some as_)) from rfl)
        have kX1 := (cell_of_blk HcX.out 1).trans (show _ = some (.int .i64 a) from rfl)
        obtain ⟨W2, hput, hT2, hg2⟩ := (show OwnsF snT X.drew as_ T zt from HXX.out.at_.of_blk rfl).put a (-1) Hw.out (show (Lit.int .i64 (-1)).wf = true by decide) (by unfold maxLen; omega)
        rw [HT.out] at hT2
        have hg2' : X.grownBy W2 (some as_) := ⟨hg2.os, hg2.tape, hg2.output, hg2.size, hg2.block⟩
        have hmap := HXX.out.at_.map
        have hlx : lo ≤ X.heap.size := Nat.le_trans Hlo.out HbX.out.size
        have HX2 : Hid (XS W2 lo base xb sb most rx ss is_ as_ hd S zs N zi (updF T a (some (-1))) zt) := Lib.hid (HXX.out.putT hg2' hT2)
        have Hk2 := Lib.hid (HkX.out.trans (KeepD.map (ss := ss) (is_ := is_) hg2' hmap (.inr (.inr rfl))))
        have Hb2 := Lib.hid ((HbX.out.mono Hlo.out).trans (grown_below hg2' HXX.out.l3 hlx))
        have Hc2 := Lib.hid (KeptTy.map hg2' hmap _ _ _ HcX.out)
        have Hz2 := Lib.hid (KeptTy.map hg2' hmap _ _ _ HzX.out)
        have Hw2 := Lib.hid (Nat.le_trans HbX.out.size hg2'.size)
        clear hT2 hg2 hg2' hmap hlx
        go_still_tail 6, (by kernel_rfl)
        change wpList _ _ _ _ _ X.drew
        refine wpList_mapput rfl _ _ _ _ rfl rfl rfl rfl hput ?_
        clear hput sX2 kX1
        have HzE := Hz2
        have HXE := HX2
        have HkE := Hk2
        have HbE := Hb2
        have z0 := (cell_of_blk HzE.out 0).trans (show _ = some (.int .i64 0) from rfl)
        have z1 := (cell_of_blk HzE.out 1).trans (show _ = some (.string ⟨#[]⟩) from rfl)
        have z2 := (cell_of_blk HzE.out 2).trans (show _ = some (.string ⟨#[]⟩) from rfl)
        have f0 := frozen_of_blk HzE.out 0
        have f1 := frozen_of_blk HzE.out 1
        have f2 := frozen_of_blk HzE.out 2
        have g1 : ((W2.setCell ⟨W.heap.size + 1, 0, none⟩ (.int .i64 0)).heap[W.heap.size + 1]? = some (.cells #[.int .i64 0, .string ⟨#[]⟩, .string ⟨#[]⟩] 40 (0, 0))) := (blk_set HzE.out).trans rfl
        have g2 : (((W2.setCell ⟨W.heap.size + 1, 0, none⟩ (.int .i64 0)).setCell ⟨W.heap.size + 1, 1, none⟩ (.string ⟨#[]⟩)).heap[W.heap.size + 1]? = some (.cells #[.int .i64 0, .string ⟨#[]⟩, .string ⟨#[]⟩] 40 (0, 0))) := (blk_set g1).trans rfl
        have hfx := ((HXE.out.for (KeptDoc.setOp (i := 0) (x := .int .i64 0) HzE.out)).for (KeptDoc.setOp (i := 1) (x := .string ⟨#[]⟩) g1)).for (KeptDoc.setOp (i := 2) (x := .string ⟨#[]⟩) g2)
        have hfk := ((HkE.out.new (i := 0) (x := .int .i64 0) (Nat.le_succ W.heap.size)).new (i := 1) (x := .string ⟨#[]⟩) (Nat.le_succ W.heap.size)).new (i := 2) (x := .string ⟨#[]⟩) (Nat.le_succ W.heap.size)
        have hlz : lo ≤ W.heap.size + 1 := Nat.le_succ_of_le Hlo.out
        have hfb := ((HbE.out.setCell (p := ⟨W.heap.size + 1, 0, none⟩) hlz (.int .i64 0)).setCell (p := ⟨W.heap.size + 1, 1, none⟩) hlz (.string ⟨#[]⟩)).setCell (p := ⟨W.heap.size + 1, 2, none⟩) hlz (.string ⟨#[]⟩)
        have Fin := Lib.hid (smove_end (T := T) (zt := zt) HX.out hfx hfk hfb Hq.out Hmv.out.1 Hmv.out.2.1 Hmv.out.2.2)
        clear g1 g2 hfx hfk hfb hlz
        go_wp2_with fail
        refine bodyPost_ret (v := .tuple #[.agg #[.int .i64 0, .string ⟨#[]⟩, .string ⟨#[]⟩], .bool false]) (by simp [results, Try.results42, go_sem, z0, z1, z2]) rfl ?_
        exact Fin.out
      · obtain ⟨i, hi⟩ : ∃ i : Nat, (kn : Int) - (cn : Int) = (i : Int) := ⟨((kn : Int) - (cn : Int)).toNat, by omega⟩
        rw [hi] at Hq ⊢
        have hik : i < kn := by omega
        obtain ⟨y, hy⟩ : ∃ y, ks[i]? = some y := ⟨_, List.getElem?_eq_getElem (by rw [← Hkn.out]; exact hik)⟩
        have hmv := mv_in (l := outO F ks) (i := i) (outO_at (F := F) hy)
        have hsome := (Hks.out.iff y (Hks.out.le y (List.mem_of_getElem? hy))).1 (List.mem_of_getElem? hy)
        have hvy : valO F y = (findL (ba y) all).1 := by
          unfold valO
          rw [HF.out, foldF_is] at hsome ⊢
          cases q : (findL (ba y) all).2 with
          | true => rw [if_pos rfl]; rfl
          | false => rw [q] at hsome; cases hsome
        obtain ⟨g, rfl, hgl, hce⟩ := own_str (by have := HstX.out; unfold OwnSt at this; rw [← Hkn.out] at this; exact this) Hkn.out.symm (by omega)
        have e00 := hce i y hy
        obtain ⟨u, hu⟩ : ∃ u, u = ba y := ⟨_, rfl⟩
        obtain ⟨⟨vv, isb⟩, hvv⟩ : ∃ r, r = findL u all := ⟨_, rfl⟩
        rw [← hu] at e00
        have Hmv : Hid (mvIn (outO F ks) (i : Int) = true ∧ mvP (outO F ks) (i : Int) = (i : Int) ∧ mvX (outO F ks) (i : Int) = ⟨1, ba y, valO F y⟩) := Lib.hid hmv
        have Hmx : Hid (mvX (outO F ks) (i : Int) = ⟨1, u, vv⟩) := Lib.hid (by rw [Hmv.out.2.2, hvy, ← hu, ← hvv])
        have Hvv := Lib.hid hvv
        have hki : ((0 : Nat) : Int) ≤ (i : Int) ∧ (i : Int) < (kn : Int) := by omega
        clear hmv hsome hvy hu hvv hce hy
        go_upto_region 16 with fail
        have sX2 := (cell_of_blk HXX.out.st 2).trans (show _ = some (.map (some as_)) from rfl)
        have kX1 := (cell_of_blk HcX.out 1).trans (show _ = some (.int .i64 a) from rfl)
        obtain ⟨W2, hput, hT2, hg2⟩ := (show OwnsF snT X.drew as_ T zt from HXX.out.at_.of_blk rfl).put a ((i : Int)) Hw.out (WalkArith.wf_i64 (by omega)) (by unfold maxLen; omega)
        rw [HT.out] at hT2
        have hg2' : X.grownBy W2 (some as_) := ⟨hg2.os, hg2.tape, hg2.output, hg2.size, hg2.block⟩
        have hmap := HXX.out.at_.map
        have hlx : lo ≤ X.heap.size := Nat.le_trans Hlo.out HbX.out.size
        have HX2 : Hid (XS W2 lo base xb sb most rx ss is_ as_ hd S zs N zi (updF T a (some ((i : Int)))) zt) := Lib.hid (HXX.out.putT hg2' hT2)
        have Hk2 := Lib.hid (HkX.out.trans (KeepD.map (ss := ss) (is_ := is_) hg2' hmap (.inr (.inr rfl))))
        have Hb2 := Lib.hid ((HbX.out.mono Hlo.out).trans (grown_below hg2' HXX.out.l3 hlx))
        have Hc2 := Lib.hid (KeptTy.map hg2' hmap _ _ _ HcX.out)
        have Hz2 := Lib.hid (KeptTy.map hg2' hmap _ _ _ HzX.out)
        have Hw2 := Lib.hid (Nat.le_trans HbX.out.size hg2'.size)
        have e0 : W2.cell? ⟨g, i, none⟩ = some (.string u) := grow_over hg2' hmap e00
        clear hT2 hg2 hg2' hmap hlx
        go_still_tail 7, (by kernel_rfl)
        change wpList _ _ _ _ _ X.drew
        refine wpList_mapput rfl _ _ _ _ rfl rfl rfl rfl hput ?_
        clear hput sX2 kX1 e00
        go_upto_region 17 with fail
        have s17 := (cell_of_blk HX2.out.st 1).trans (show _ = some (.map (some is_)) from rfl)
        have k17 := (cell_of_blk Hc2.out 1).trans (show _ = some (.int .i64 a) from rfl)
        have Hl17 := Lib.hid (fun (A : World) (hA : Below W2.heap.size W2 A) => Hli2.out A (HX2.out.it.below hA))
        have Hfi0 := Lib.hid (fun (A : World) (hA : Below W2.heap.size W2 A) => Hfi.out u A (HX2.out.xo.bel hA))
        rw [← Hvv.out] at Hfi0
        refine wp_region_held_drew (S := fun V' => Hid (Below W2.heap.size W2 V')) (by kernel_rfl) (Lib.hid ((Below.refl _ _).drew)) (fun hS0 => ?_)
        refine wpAnyH_take (i := 0) (oi := { dst := some 94, op := Op.move (Operand.tmp 1), type := 26, pos := "law.go:162", after := #[], guard := none }) (v := ?_) rfl (by kernel_rfl) (by kernel_rfl) (by kernel_rfl) (fun _ _ _ h => h) (Or.inl ⟨by rfl, ?hy85⟩) hS0 ?_
        case hy85 => (intro V hSw; (try dsimp only at hSw); clear hSw; go_simp; try with_reducible rfl)
        try simp only [Act.put, List.setIfInBounds_toArray, List.set_cons_zero, List.set_cons_succ]
        refine wpAnyH_take (i := 1) (oi := { dst := some 95, op := Op.move (Operand.tmp 0), type := 59, pos := "law.go:162", after := #[], guard := none }) (v := ?_) rfl (by kernel_rfl) (by kernel_rfl) (by kernel_rfl) (fun _ _ _ h => h) (Or.inl ⟨by rfl, ?hy86⟩) hS0 ?_
        case hy86 => (intro V hSw; (try dsimp only at hSw); clear hSw; go_simp; try with_reducible rfl)
        try simp only [Act.put, List.setIfInBounds_toArray, List.set_cons_zero, List.set_cons_succ]
        refine wpAnyH_take (i := 2) (oi := { dst := some 96, op := Op.nilCheck (Operand.tmp 95), type := 0, pos := "law.go:162", after := #[{ on := 1, ground := Ground.data }], guard := none }) (v := ?_) rfl (by kernel_rfl) (by kernel_rfl) (by kernel_rfl) (fun _ _ _ h => h) (Or.inl ⟨by rfl, ?hy87⟩) hS0 ?_
        case hy87 => (intro V hSw; (try dsimp only at hSw); clear hSw; go_simp; try with_reducible rfl)
        try simp only [Act.put, List.setIfInBounds_toArray, List.set_cons_zero, List.set_cons_succ]
        refine wpAnyH_take (i := 3) (oi := { dst := some 97, op := Op.fieldAddr 62 (Operand.tmp 96) 1, type := 0, pos := "law.go:162", after := #[{ on := 2, ground := Ground.data }], guard := none }) (v := ?_) rfl (by kernel_rfl) (by kernel_rfl) (by kernel_rfl) (fun _ _ _ h => h) (Or.inl ⟨by rfl, ?hy88⟩) hS0 ?_
        case hy88 => (intro V hSw; (try dsimp only at hSw); clear hSw; go_simp; try with_reducible rfl)
        try simp only [Act.put, List.setIfInBounds_toArray, List.set_cons_zero, List.set_cons_succ]
        refine wpAnyH_take (i := 4) (oi := { dst := some 98, op := Op.load 60 (Operand.tmp 97), type := 60, pos := "law.go:162", after := #[{ on := 3, ground := Ground.data }], guard := none }) (v := ?_) rfl (by kernel_rfl) (by kernel_rfl) (by kernel_rfl) (fun _ _ _ h => h) (Or.inl ⟨by rfl, ?hy89⟩) hS0 ?_
        case hy89 => (intro V hSw; (try dsimp only at hSw); have q0 := grow_cellO hSw.out (block_lt_of_cell s17) s17; have q1 := grow_cellO hSw.out (block_lt_of_cell k17) k17; have q2 := grow_cellO hSw.out (block_lt_of_cell e0) e0; have ql0 := Hl17.out _ hSw.out; clear hSw; go_simp; try with_reducible rfl)
        try simp only [Act.put, List.setIfInBounds_toArray, List.set_cons_zero, List.set_cons_succ]
        refine wpAnyH_take (i := 5) (oi := { dst := some 99, op := Op.fieldAddr 64 (Operand.tmp 5) 1, type := 0, pos := "law.go:162", after := #[], guard := none }) (v := ?_) rfl (by kernel_rfl) (by kernel_rfl) (by kernel_rfl) (fun _ _ _ h => h) (Or.inl ⟨by rfl, ?hy90⟩) hS0 ?_
        case hy90 => (intro V hSw; (try dsimp only at hSw); clear hSw; go_simp; try with_reducible rfl)
        try simp only [Act.put, List.setIfInBounds_toArray, List.set_cons_zero, List.set_cons_succ]
        refine wpAnyH_take (i := 6) (oi := { dst := some 100, op := Op.load 3 (Operand.tmp 99), type := 3, pos := "law.go:162", after := #[{ on := 5, ground := Ground.data }], guard := none }) (v := ?_) rfl (by kernel_rfl) (by kernel_rfl) (by kernel_rfl) (fun _ _ _ h => h) (Or.inl ⟨by rfl, ?hy91⟩) hS0 ?_
        case hy91 => (intro V hSw; (try dsimp only at hSw); have q0 := grow_cellO hSw.out (block_lt_of_cell s17) s17; have q1 := grow_cellO hSw.out (block_lt_of_cell k17) k17; have q2 := grow_cellO hSw.out (block_lt_of_cell e0) e0; have ql0 := Hl17.out _ hSw.out; clear hSw; go_simp; try with_reducible rfl)
        try simp only [Act.put, List.setIfInBounds_toArray, List.set_cons_zero, List.set_cons_succ]
        refine wpAnyH_take (i := 7) (oi := { dst := some 101, op := Op.lookup 60 (Operand.tmp 98) (Operand.tmp 100) false, type := 3, pos := "law.go:162", after := #[{ on := 4, ground := Ground.data }, { on := 6, ground := Ground.data }], guard := none }) (v := ?_) rfl (by kernel_rfl) (by kernel_rfl) (by kernel_rfl) (fun _ _ _ h => h) (Or.inl ⟨by rfl, ?hy92⟩) hS0 ?_
        case hy92 => (intro V hSw; (try dsimp only at hSw); have q0 := grow_cellO hSw.out (block_lt_of_cell s17) s17; have q1 := grow_cellO hSw.out (block_lt_of_cell k17) k17; have q2 := grow_cellO hSw.out (block_lt_of_cell e0) e0; have ql0 := Hl17.out _ hSw.out; clear hSw; go_simp; try with_reducible rfl)
        try simp only [Act.put, List.setIfInBounds_toArray, List.set_cons_zero, List.set_cons_succ]
        refine wpAnyH_take (i := 8) (oi := { dst := some 102, op := Op.move (Operand.tmp 8), type := 44, pos := "law.go:162", after := #[], guard := none }) (v := ?_) rfl (by kernel_rfl) (by kernel_rfl) (by kernel_rfl) (fun _ _ _ h => h) (Or.inl ⟨by rfl, ?hy93⟩) hS0 ?_
        case hy93 => (intro V hSw; (try dsimp only at hSw); clear hSw; go_simp; try with_reducible rfl)
        try simp only [Act.put, List.setIfInBounds_toArray, List.set_cons_zero, List.set_cons_succ]
        refine wpAnyH_take (i := 9) (oi := { dst := some 103, op := Op.move (Operand.tmp 9), type := 3, pos := "law.go:162", after := #[], guard := none }) (v := ?_) rfl (by kernel_rfl) (by kernel_rfl) (by kernel_rfl) (fun _ _ _ h => h) (Or.inl ⟨by rfl, ?hy94⟩) hS0 ?_
        case hy94 => (intro V hSw; (try dsimp only at hSw); clear hSw; go_simp; try with_reducible rfl)
        try simp only [Act.put, List.setIfInBounds_toArray, List.set_cons_zero, List.set_cons_succ]
        refine wpAnyH_take (i := 10) (oi := { dst := some 104, op := Op.indexAddr 44 (Operand.tmp 102) (Operand.tmp 103), type := 0, pos := "law.go:162", after := #[{ on := 8, ground := Ground.data }, { on := 9, ground := Ground.data }], guard := none }) (v := ?_) rfl (by kernel_rfl) (by kernel_rfl) (by kernel_rfl) (fun _ _ _ h => h) (Or.inl ⟨by rfl, ?hy95⟩) hS0 ?_
        case hy95 => (intro V hSw; (try dsimp only at hSw); clear hSw; go_simp; try with_reducible rfl)
        try simp only [Act.put, List.setIfInBounds_toArray, List.set_cons_zero, List.set_cons_succ]
        refine wpAnyH_take (i := 11) (oi := { dst := some 105, op := Op.load 9 (Operand.tmp 104), type := 9, pos := "law.go:162", after := #[{ on := 10, ground := Ground.data }], guard := none }) (v := ?_) rfl (by kernel_rfl) (by kernel_rfl) (by kernel_rfl) (fun _ _ _ h => h) (Or.inl ⟨by rfl, ?hy96⟩) hS0 ?_
        case hy96 => (intro V hSw; (try dsimp only at hSw); have q0 := grow_cellO hSw.out (block_lt_of_cell s17) s17; have q1 := grow_cellO hSw.out (block_lt_of_cell k17) k17; have q2 := grow_cellO hSw.out (block_lt_of_cell e0) e0; have ql0 := Hl17.out _ hSw.out; clear hSw; go_simp; try with_reducible rfl)
        try simp only [Act.put, List.setIfInBounds_toArray, List.set_cons_zero, List.set_cons_succ]
        refine wpAnyH_ready (rs := [12]) (by kernel_rfl) (by simp) (AllReadyH.cons rfl (fun K hK => ?_) AllReadyH.nil)
        go_simp
        refine (Hfi0.out _ hS0.out).mono ?_
        rintro e wv97 ⟨rfl, hv97⟩
        have hS97 := Lib.hid (hS0.out.trans (hv97.mono hS0.out.size))
        clear hv97
        refine hK.out _ _ hS97 (fun _ => ?_)
        clear hK K
        try simp only [Act.put, List.setIfInBounds_toArray, List.set_cons_zero, List.set_cons_succ]
        refine wpAnyH_take (i := 13) (oi := { dst := some 93, op := Op.move (Operand.tmp 106), type := 32, pos := "law.go:162", after := #[{ on := 12, ground := Ground.data }], guard := none }) (v := ?_) rfl (by kernel_rfl) (by kernel_rfl) (by kernel_rfl) (fun _ _ _ h => h) (Or.inl ⟨by rfl, ?hy98⟩) hS97 ?_
        case hy98 => (intro V hSw; (try dsimp only at hSw); clear hSw; go_simp; try with_reducible rfl)
        try simp only [Act.put, List.setIfInBounds_toArray, List.set_cons_zero, List.set_cons_succ]
        refine wpAnyH_take (i := 14) (oi := { dst := some 107, op := Op.extract (Operand.tmp 93) 0, type := 9, pos := "law.go:162", after := #[{ on := 13, ground := Ground.data }], guard := none }) (v := ?_) rfl (by kernel_rfl) (by kernel_rfl) (by kernel_rfl) (fun _ _ _ h => h) (Or.inl ⟨by rfl, ?hy99⟩) hS97 ?_
        case hy99 => (intro V hSw; (try dsimp only at hSw); clear hSw; go_simp; try with_reducible rfl)
        try simp only [Act.put, List.setIfInBounds_toArray, List.set_cons_zero, List.set_cons_succ]
        refine wpAnyH_take (i := 15) (oi := { dst := some 108, op := Op.extract (Operand.tmp 93) 1, type := 4, pos := "law.go:162", after := #[{ on := 13, ground := Ground.data }, { on := 16, ground := Ground.gcOnly Departure.lateStores }], guard := none }) (v := ?_) rfl (by kernel_rfl) (by kernel_rfl) (by kernel_rfl) (fun _ _ _ h => h) (Or.inl ⟨by rfl, ?hy100⟩) hS97 ?_
        case hy100 => (intro V hSw; (try dsimp only at hSw); clear hSw; go_simp; try with_reducible rfl)
        try simp only [Act.put, List.setIfInBounds_toArray, List.set_cons_zero, List.set_cons_succ]
        refine wpAnyH_take (i := 16) (oi := { dst := some 10, op := Op.assign (Operand.tmp 107), type := 9, pos := "law.go:162", after := #[{ on := 14, ground := Ground.data }, { on := 12, ground := Ground.chain }, { on := 0, ground := Ground.phase }, { on := 1, ground := Ground.phase }, { on := 2, ground := Ground.phase }, { on := 3, ground := Ground.phase }, { on := 4, ground := Ground.phase }, { on := 5, ground := Ground.phase }, { on := 6, ground := Ground.phase }, { on := 7, ground := Ground.phase }, { on := 8, ground := Ground.phase }, { on := 9, ground := Ground.phase }, { on := 10, ground := Ground.phase }, { on := 11, ground := Ground.phase }, { on := 12, ground := Ground.phase }, { on := 13, ground := Ground.phase }, { on := 14, ground := Ground.phase }, { on := 15, ground := Ground.textOnly Departure.lateStores }], guard := none }) (v := ?_) rfl (by kernel_rfl) (by kernel_rfl) (by kernel_rfl) (fun _ _ _ h => h) (Or.inl ⟨by rfl, ?hy101⟩) hS97 ?_
        case hy101 => (intro V hSw; (try dsimp only at hSw); clear hSw; go_simp; try with_reducible rfl)
        try simp only [Act.put, List.setIfInBounds_toArray, List.set_cons_zero, List.set_cons_succ]
        refine wpAnyH_ready (rs := [17]) (by kernel_rfl) (by simp) (AllReadyH.cons rfl (fun K hK => ?_) AllReadyH.nil)
        go_simp
        refine hK.out _ _ hS97 (fun _ => ?_)
        clear hK K
        try simp only [Act.put, List.setIfInBounds_toArray, List.set_cons_zero, List.set_cons_succ]
        refine wpAnyH_done (by kernel_rfl) ?_ _
        have HzE := Lib.hid (blk_bels hS97.out Hz2.out)
        have HXE := Lib.hid (HX2.out.bel hS97.out)
        have HkE := Lib.hid (Hk2.out.trans (KeepD.of_below hS97.out))
        have HbE := Lib.hid (Hb2.out.trans (hS97.out.mono (Nat.le_trans Hlo.out Hw2.out)))
        have e1 := grow_cellO hS97.out (block_lt_of_cell e0) e0
        clear e0 s17 k17
        have z0 := (cell_of_blk HzE.out 0).trans (show _ = some (.int .i64 0) from rfl)
        have z1 := (cell_of_blk HzE.out 1).trans (show _ = some (.string ⟨#[]⟩) from rfl)
        have z2 := (cell_of_blk HzE.out 2).trans (show _ = some (.string ⟨#[]⟩) from rfl)
        have f0 := frozen_of_blk HzE.out 0
        have f1 := frozen_of_blk HzE.out 1
        have f2 := frozen_of_blk HzE.out 2
        have g1 : ((wv97.setCell ⟨W.heap.size + 1, 0, none⟩ (.int .i64 1)).heap[W.heap.size + 1]? = some (.cells #[.int .i64 1, .string ⟨#[]⟩, .string ⟨#[]⟩] 40 (0, 0))) := (blk_set HzE.out).trans rfl
        have g2 : (((wv97.setCell ⟨W.heap.size + 1, 0, none⟩ (.int .i64 1)).setCell ⟨W.heap.size + 1, 1, none⟩ (.string u)).heap[W.heap.size + 1]? = some (.cells #[.int .i64 1, .string u, .string ⟨#[]⟩] 40 (0, 0))) := (blk_set g1).trans rfl
        have hfx := ((HXE.out.for (KeptDoc.setOp (i := 0) (x := .int .i64 1) HzE.out)).for (KeptDoc.setOp (i := 1) (x := .string u) g1)).for (KeptDoc.setOp (i := 2) (x := .string vv) g2)
        have hfk := ((HkE.out.new (i := 0) (x := .int .i64 1) (Nat.le_succ W.heap.size)).new (i := 1) (x := .string u) (Nat.le_succ W.heap.size)).new (i := 2) (x := .string vv) (Nat.le_succ W.heap.size)
        have hlz : lo ≤ W.heap.size + 1 := Nat.le_succ_of_le Hlo.out
        have hfb := ((HbE.out.setCell (p := ⟨W.heap.size + 1, 0, none⟩) hlz (.int .i64 1)).setCell (p := ⟨W.heap.size + 1, 1, none⟩) hlz (.string u)).setCell (p := ⟨W.heap.size + 1, 2, none⟩) hlz (.string vv)
        have Fin := Lib.hid (smove_end (T := T) (zt := zt) HX.out hfx hfk hfb Hq.out Hmv.out.1 Hmv.out.2.1 Hmx.out)
        clear g1 g2 hfx hfk hfb hlz
        go_wp2_with fail
        refine bodyPost_ret (v := .tuple #[.agg #[.int .i64 1, .string u, .string vv], .bool true]) (by simp [results, Try.results42, go_sem, z0, z1, z2]) rfl ?_
        exact Fin.out
end Go.Proofs.Ytbnodgoccmhjkaa.Tithe
