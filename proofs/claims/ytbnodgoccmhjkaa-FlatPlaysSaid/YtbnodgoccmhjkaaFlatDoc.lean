/- The document's model with its handles: what it is; writes, within: walked. -/
import Derived.Test.YtbnodgoccmhjkaaFlatStays
import Derived.Test.YtbnodgoccmhjkaaFlatIs
namespace Go.Proofs.Ytbnodgoccmhjkaa.Tithe
open Go.RowKit Go.Sort Go.Shelf
set_option linter.unusedVariables false
set_option linter.unusedSimpArgs false
set_option maxRecDepth 100000
structure XS (W : World) (lo base xb sb : Nat) (most : Int) (rx : List Wr) (ss is_ as_ hd : Nat) (S : Int → Option Int) (zs : Nat) (N : Int → Option Int) (zi : Nat) (T : Int → Option Int) (zt : Nat) : Prop where
  xo : IsXo W base xb most rx
  st : W.heap[sb]? = some (.cells #[.map (some ss), .map (some is_), .map (some as_), .int .i64 hd] 62 (0, 0))
  sn : OwnsF snT W ss S zs
  it : OwnsF snT W is_ N zi
  at_ : OwnsF snT W as_ T zt
  n1 : ss ≠ is_
  n2 : ss ≠ as_
  n3 : is_ ≠ as_
  l1 : lo ≤ ss
  l2 : lo ≤ is_
  l3 : lo ≤ as_
  l4 : lo ≤ xb
  l5 : lo ≤ sb
/-- all that is the document's is as it was -/
def KeptDoc (ss is_ as_ : Nat) (w w' : World) : Prop := w.heap.size ≤ w'.heap.size ∧ ∀ (b : Nat) (o : Obj), w.heap[b]? = some o → ((∃ cs fr, o = .cells cs 36 fr) ∨ (∃ cs fr, o = .cells cs 68 fr) ∨ (∃ cs fr, o = .cells cs 70 fr) ∨ (∃ cs fr, o = .cells cs 62 fr) ∨ ((∃ es ck, o = .map es ck) ∧ (b = ss ∨ b = is_ ∨ b = as_))) → w'.heap[b]? = some o
theorem KeptDoc.of_below {ss is_ as_ : Nat} {w w' : World} (h : Below w.heap.size w w') : KeptDoc ss is_ as_ w w' := ⟨h.size, fun b o hb _ => blk_bels h hb⟩
theorem IsXo.for {ss is_ as_ : Nat} {W W' : World} {base xb : Nat} {most : Int} {rows : List Wr} (h : IsXo W base xb most rows) (hk : KeptDoc ss is_ as_ W W') : IsXo W' base xb most rows := by
  obtain ⟨a, c, h1, h2⟩ := h.ex
  exact ⟨⟨a, c, hk.2 xb _ h1 (.inl ⟨_, _, rfl⟩), own_for h2.out (fun b cs fr hb => hk.2 b _ hb (.inr (.inl ⟨_, _, rfl⟩))), fun r hr => own_for (h2.row r hr) (fun b cs fr hb => hk.2 b _ hb (.inr (.inr (.inl ⟨_, _, rfl⟩))))⟩, h.lt, Nat.le_trans h.le hk.1⟩
theorem OwnsF.kept {α : Type} {M : MapTy α} {W W' : World} {b z : Nat} {F : Int → Option α} (h : OwnsF M W b F z) (hk : ∀ o, W.heap[b]? = some o → (∃ es ck, o = .map es ck) → W'.heap[b]? = some o) : OwnsF M W' b F z := by
  obtain ⟨es, ck, hm⟩ := h.map
  exact h.of_blk ((hk _ hm ⟨_, _, rfl⟩).trans hm.symm)
section
variable {W W' : World} {lo base xb sb : Nat} {most : Int} {rx : List Wr} {ss is_ as_ hd : Nat} {S : Int → Option Int} {zs : Nat} {N : Int → Option Int} {zi : Nat} {T : Int → Option Int} {zt : Nat}
theorem XS.for (h : XS W lo base xb sb most rx ss is_ as_ hd S zs N zi T zt) (hk : KeptDoc ss is_ as_ W W') : XS W' lo base xb sb most rx ss is_ as_ hd S zs N zi T zt :=
  ⟨h.xo.for hk, hk.2 sb _ h.st (.inr (.inr (.inr (.inl ⟨_, _, rfl⟩)))), h.sn.kept (fun o ho hm => hk.2 _ _ ho (.inr (.inr (.inr (.inr ⟨hm, .inl rfl⟩))))), h.it.kept (fun o ho hm => hk.2 _ _ ho (.inr (.inr (.inr (.inr ⟨hm, .inr (.inl rfl)⟩))))), h.at_.kept (fun o ho hm => hk.2 _ _ ho (.inr (.inr (.inr (.inr ⟨hm, .inr (.inr rfl)⟩))))), h.n1, h.n2, h.n3, h.l1, h.l2, h.l3, h.l4, h.l5⟩
theorem XS.bel (h : XS W lo base xb sb most rx ss is_ as_ hd S zs N zi T zt) (hb : Below W.heap.size W W') : XS W' lo base xb sb most rx ss is_ as_ hd S zs N zi T zt := h.for (KeptDoc.of_below hb)
theorem KeepN.doc {sm im : Nat} (hk : KeepN sm im W W') (hs : W.heap.size ≤ W'.heap.size) (h1 : ss ≠ sm ∧ ss ≠ im) (h2 : is_ ≠ sm ∧ is_ ≠ im) (h3 : as_ ≠ sm ∧ as_ ≠ im) : KeptDoc ss is_ as_ W W' := by
  refine ⟨hs, fun b o hb ho => ?_⟩
  rcases ho with ⟨cs, fr, rfl⟩ | ⟨cs, fr, rfl⟩ | ⟨cs, fr, rfl⟩ | ⟨cs, fr, rfl⟩ | ⟨⟨es, ck, rfl⟩, ho⟩
  · exact hk b _ hb (fun _ _ => cells_ne (by decide)) (fun _ _ => cells_ne (by decide)) (fun _ _ => cells_ne (by decide)) (fun ⟨_, _, e⟩ => by cases e)
  · exact hk b _ hb (fun _ _ => cells_ne (by decide)) (fun _ _ => cells_ne (by decide)) (fun _ _ => cells_ne (by decide)) (fun ⟨_, _, e⟩ => by cases e)
  · exact hk b _ hb (fun _ _ => cells_ne (by decide)) (fun _ _ => cells_ne (by decide)) (fun _ _ => cells_ne (by decide)) (fun ⟨_, _, e⟩ => by cases e)
  · exact hk b _ hb (fun _ _ => cells_ne (by decide)) (fun _ _ => cells_ne (by decide)) (fun _ _ => cells_ne (by decide)) (fun ⟨_, _, e⟩ => by cases e)
  · refine hk b _ hb (fun _ _ e => by cases e) (fun _ _ e => by cases e) (fun _ _ e => by cases e) (fun _ => ?_)
    rcases ho with e | e | e
    · rw [e]; exact h1
    · rw [e]; exact h2
    · rw [e]; exact h3
end
/-- all but the document's models, rows of writes, state and three maps is as it was -/
def KeepD (ss is_ as_ : Nat) (w w' : World) : Prop := ∀ (b : Nat) (o : Obj), w.heap[b]? = some o → (∀ cs fr, o ≠ .cells cs 36 fr) → (∀ cs fr, o ≠ .cells cs 68 fr) → (∀ cs fr, o ≠ .cells cs 62 fr) → ((∃ es ck, o = .map es ck) → b ≠ ss ∧ b ≠ is_ ∧ b ≠ as_) → w'.heap[b]? = some o
theorem KeepD.of_below {ss is_ as_ : Nat} {w w' : World} (hb : Below w.heap.size w w') : KeepD ss is_ as_ w w' := fun b o h _ _ _ _ => blk_bels hb h
theorem KeepD.of_keepX {ss is_ as_ : Nat} {w w' : World} (h : KeepX w w') : KeepD ss is_ as_ w w' := fun b o hb h1 h2 _ _ => h b o hb h1 h2
theorem KeepD.trans {ss is_ as_ : Nat} {a b c : World} (h : KeepD ss is_ as_ a b) (h2 : KeepD ss is_ as_ b c) : KeepD ss is_ as_ a c := fun q o hq h3 h4 h5 h6 => h2 q o (h q o hq h3 h4 h5 h6) h3 h4 h5 h6
theorem KeepD.map {ss is_ as_ b : Nat} {W W' : World} (hg : W.grownBy W' (some b)) (hm : ∃ es ck, W.heap[b]? = some (.map es ck)) (hb : b = ss ∨ b = is_ ∨ b = as_) : KeepD ss is_ as_ W W' := fun q o hq _ _ _ h4 => by
  refine (hg.block q (blk_lt hq) (fun e => ?_)).trans hq
  injection e with e
  subst e
  obtain ⟨es, ck, hm⟩ := hm
  rw [hq] at hm
  injection hm with hm
  have := h4 ⟨es, ck, hm⟩
  rcases hb with e | e | e
  · exact this.1 e
  · exact this.2.1 e
  · exact this.2.2 e
theorem KeepD.state {ss is_ as_ sb i : Nat} {W : World} {x : Value} {cs : Array Value} (h : W.heap[sb]? = some (.cells cs 62 (0, 0))) : KeepD ss is_ as_ W (W.setCell ⟨sb, i, none⟩ x) := fun b o hb _ _ h3 _ => by
  refine (Below.heap_setCell W ⟨sb, i, none⟩ x b (fun e => ?_)).trans hb
  have e2 : b = sb := e
  subst e2
  rw [h] at hb
  injection hb with hb
  exact h3 _ _ hb.symm
theorem KeepD.for {ss is_ as_ sm im : Nat} {W W' : World} (hk : KeepD ss is_ as_ W W') (hs : W.heap.size ≤ W'.heap.size) (h1 : sm ≠ ss ∧ sm ≠ is_ ∧ sm ≠ as_) (h2 : im ≠ ss ∧ im ≠ is_ ∧ im ≠ as_) (hm1 : ∃ es ck, W.heap[sm]? = some (.map es ck)) (hm2 : ∃ es ck, W.heap[im]? = some (.map es ck)) : KeptFor sm im W W' := by
  refine ⟨hs, fun b o hb ho => ?_⟩
  rcases ho with ⟨cs, fr, rfl⟩ | ⟨cs, fr, rfl⟩ | ⟨cs, fr, rfl⟩ | ⟨cs, fr, rfl⟩ | rfl | rfl
  · exact hk b _ hb (fun _ _ => cells_ne (by decide)) (fun _ _ => cells_ne (by decide)) (fun _ _ => cells_ne (by decide)) (fun ⟨_, _, e⟩ => by cases e)
  · exact hk b _ hb (fun _ _ => cells_ne (by decide)) (fun _ _ => cells_ne (by decide)) (fun _ _ => cells_ne (by decide)) (fun ⟨_, _, e⟩ => by cases e)
  · exact hk b _ hb (fun _ _ => cells_ne (by decide)) (fun _ _ => cells_ne (by decide)) (fun _ _ => cells_ne (by decide)) (fun ⟨_, _, e⟩ => by cases e)
  · exact hk b _ hb (fun _ _ => cells_ne (by decide)) (fun _ _ => cells_ne (by decide)) (fun _ _ => cells_ne (by decide)) (fun ⟨_, _, e⟩ => by cases e)
  · obtain ⟨es, ck, hm⟩ := hm1
    rw [hm] at hb
    injection hb with hb
    subst hb
    exact hk _ _ hm (fun _ _ e => by cases e) (fun _ _ e => by cases e) (fun _ _ e => by cases e) (fun _ => h1)
  · obtain ⟨es, ck, hm⟩ := hm2
    rw [hm] at hb
    injection hb with hb
    subst hb
    exact hk _ _ hm (fun _ _ e => by cases e) (fun _ _ e => by cases e) (fun _ _ e => by cases e) (fun _ => h2)
/-- how many writes a handle means -/
def wrN (n : Nat) (S : Int → Option Int) (h : Int) : Option Int := if h = 0 then some (n : Int) else S h
attribute [local go_sem] Oper.semAt_some
theorem writes_any {W : World} {lo base xb sb : Nat} {most : Int} {rx : List Wr} {ss is_ as_ hd : Nat} {S : Int → Option Int} {zs : Nat} {N : Int → Option Int} {zi : Nat} {T : Int → Option Int} {zt : Nat} (h : XS W lo base xb sb most rx ss is_ as_ hd S zs N zi T zt) (hh : Int) (hw : (Lit.int .i64 hh).wf = true) :
    Calls Try.prog 40 #[.pointer (some ⟨sb, 0, none⟩), .pointer (some ⟨xb, 0, none⟩), .int .i64 hh] W fun e W' => e = .returned (.tuple #[.int .i64 ((wrN rx.length S hh).getD 0), .bool (wrN rx.length S hh).isSome]) ∧ W = W' := by
  by_cases h0 : hh = 0
  · subst h0
    obtain ⟨a, c, hX, -⟩ := h.xo.ex
    have x0 := (cell_of_blk hX 0).trans (show _ = some (.slice a rx.length c) from rfl)
    clear h hX hw
    go_enter Try.func40, Try.ntmps40
    go_wp2_with fail
    go_ret2
    exact ⟨rfl, rfl⟩
  · have s0 := (cell_of_blk h.st 0).trans (show _ = some (.map (some ss)) from rfl)
    have hlk := h.sn.look_ok hh hw
    have h1 : (hh == 0) = false := beq_eq_false_iff_ne.2 h0
    have hwr : wrN rx.length S hh = S hh := by unfold wrN; rw [if_neg h0]
    rw [hwr]
    clear h h0 hwr hw
    cases q : S hh with
    | none =>
      rw [q] at hlk
      have hl2 : (Instr.lookup 60 (.map (some ss)) (.int .i64 hh) true).run Try.prog W = .ok (.tuple #[.int .i64 0, .bool false]) W := hlk
      clear hlk q
      go_enter Try.func40, Try.ntmps40
      go_wp2_with fail
      go_ret2
      exact ⟨rfl, rfl⟩
    | some m =>
      rw [q] at hlk
      have hl2 : (Instr.lookup 60 (.map (some ss)) (.int .i64 hh) true).run Try.prog W = .ok (.tuple #[.int .i64 m, .bool true]) W := hlk
      clear hlk q
      go_enter Try.func40, Try.ntmps40
      go_wp2_with fail
      go_ret2
      exact ⟨rfl, rfl⟩
/-- which keys are within -/
def inR (fr to : ByteArray) (y : List UInt8) : Bool := !decide (cmpB (ba y) fr < 0) && (to.toList.isEmpty || decide (cmpB (ba y) to < 0))
theorem inR_del (fr to : ByteArray) (k : Int) (y : List UInt8) (v : ByteArray) : inR fr to y = !delP fr to ⟨k, ba y, v⟩ := by
  unfold inR delP
  cases decide (cmpB (ba y) fr < 0) <;> cases to.toList.isEmpty <;> cases decide (cmpB (ba y) to < 0) <;> rfl
theorem outO_left (F : FunO) (fr to : ByteArray) (ks : List (List UInt8)) : leftB (delP fr to) (outO F ks) = outO F (ks.filter (inR fr to)) := by
  unfold leftB outO
  rw [List.filter_map]
  congr 1
  refine List.filter_congr (fun y _ => ?_)
  exact (inR_del fr to 1 y (valO F y)).symm
set_option maxHeartbeats 3200000 in
theorem within_any (v : Value) (l : List (List UInt8)) (fr to : ByteArray) (base : Nat) (w : World) (h : OwnSt w base v l) (hl : l.length ≤ 100000) (hle : ∀ x ∈ l, x.length ≤ maxLen) (hf : fr.size ≤ maxLen) (ht : to.size ≤ maxLen) :
    Calls Try.prog 41 #[v, .string fr, .string to] w fun e w' => ∃ v', e = .returned v' ∧ OwnSt w' w.heap.size v' (l.filter (inR fr to)) ∧ Below w.heap.size w w' := by
  obtain ⟨a, c, rfl⟩ := own_slice h
  have Hle := Lib.hid hle
  obtain ⟨n, hn⟩ : ∃ n, n = l.length := ⟨_, rfl⟩
  rw [← hn] at hl ⊢
  have hcl := fun (h0 : 0 < n) => own_str (by have := h; unfold OwnSt at this; rw [← hn] at this; exact this) hn.symm h0
  have Hcl := Lib.hid hcl
  have Hn := Lib.hid hn
  have Hf := Lib.hid hf
  have Ht := Lib.hid ht
  clear h hle hn hcl hf ht
  go_enter Try.func41, Try.ntmps41
  go_wp2_with fail
  go_loopw [7, 12] (fun ov iv wr => ∃ k : Nat, k ≤ n ∧ iv = .int .i64 k ∧ ∃ oa oc m, ov = .slice oa m oc ∧ m = ((l.take k).filter (inR fr to)).length ∧ m ≤ k ∧ Hid (OwnSt wr w.heap.size (.slice oa m oc) ((l.take k).filter (inR fr to))) ∧ Hid (Below w.heap.size w wr)) (fun _ iv _ => n - (intOf iv).toNat)
  case atStart => exact ⟨0, Nat.zero_le _, rfl, none, 0, 0, rfl, rfl, Nat.le_refl _, Lib.hid (World.ownsRow_nil _ _ _ _), Lib.hid (Below.refl _ _)⟩
  case round =>
    obtain ⟨wo, rfl⟩ : ∃ wo : World, wo = wr := ⟨_, rfl⟩
    obtain ⟨k, hk2, rfl, oa, oc, m, rfl, hm, hmk, hown, hbw⟩ := hrel
    obtain ⟨R, hR⟩ : ∃ R, R = (l.take k).filter (inR fr to) := ⟨_, rfl⟩
    rw [← hR] at hm hown
    have HR := Lib.hid hR
    have Hm := Lib.hid hm
    clear hR hm
    by_cases hkn : k < n
    · obtain ⟨g, rfl, hgl, hce⟩ := Hcl.out (by omega)
      obtain ⟨x, hxk⟩ : ∃ x, l[k]? = some x := ⟨_, List.getElem?_eq_getElem (by rw [← Hn.out]; exact hkn)⟩
      have e0 := (hbw.out.cell (p := ⟨g, k, none⟩) hgl).trans (hce k x hxk)
      have hxl := Hle.out x (List.mem_of_getElem? hxk)
      have htk : (l.take (k + 1)).filter (inR fr to) = R ++ (if inR fr to x = true then [x] else []) := by
        rw [List.take_add_one, hxk, List.filter_append, ← HR.out]
        show R ++ List.filter (inR fr to) [x] = _
        rw [List.filter_cons, List.filter_nil]
      obtain ⟨u, hu⟩ : ∃ u, u = ba x := ⟨_, rfl⟩
      have hux : u.data.toList = x := (ba_eq hu.symm).symm
      have hul : u.size ≤ maxLen := by rw [← ba_len, hux]; exact hxl
      rw [← hu] at e0
      have hin : inR fr to x = (!decide (cmpB u fr < 0) && (to.toList.isEmpty || decide (cmpB u to < 0))) := by unfold inR; rw [← hu]
      have Hin := Lib.hid hin
      have Htk := Lib.hid htk
      have Hux := Lib.hid hux
      have HO1 := Lib.hid (fun (A : World) => Order_below u fr hul Hf.out A)
      have HO2 := Lib.hid (fun (A : World) => Order_below u to hul Ht.out A)
      have hki : (k : Int) < (n : Int) := by omega
      clear hgl hce hxk hxl htk hu hux hul hin
      have hno : inR fr to x = false → Hid ((l.take (k + 1)).filter (inR fr to) = R) := fun q => Lib.hid (by rw [Htk.out, q]; simp)
      have hyes : inR fr to x = true → Hid ((l.take (k + 1)).filter (inR fr to) = R ++ [u.data.toList]) := fun q => Lib.hid (by rw [Htk.out, if_pos q, Hux.out])
      have Hno := Lib.hid hno
      have Hyes := Lib.hid hyes
      clear hno hyes
      by_cases c1 : cmpB u fr < 0
      · have Hr := Hno.out (by rw [Hin.out, decide_eq_true c1]; rfl)
        go_wp2_with fail
        refine (HO1.out wo).mono ?_
        rintro e w1 ⟨rfl, hb1⟩
        have Ho1 := Lib.hid (hown.out.below hb1)
        have Hb1 := Lib.hid (hbw.out.trans (hb1.mono hbw.out.size))
        clear hb1 e0
        have c1' : ¬ 0 ≤ cmpB u fr := by omega
        go_wp2_with fail
        go_roundw
        case rel => exact ⟨k + 1, by omega, by go_num, oa, oc, m, rfl, by rw [Hr.out]; exact Hm.out, by omega, Lib.hid (by rw [Hr.out]; exact Ho1.out), Hb1⟩
        case measure => simp [intOf]; omega
      · have c1' : 0 ≤ cmpB u fr := by omega
        by_cases hte : to.toList = []
        · have Hr := Hyes.out (by rw [Hin.out, decide_eq_false c1, hte]; rfl)
          go_wp2_with fail
          refine (HO1.out wo).mono ?_
          rintro e w1 ⟨rfl, hb1⟩
          have hbw1 := hbw.out.trans (hb1.mono hbw.out.size)
          obtain ⟨ya, yc, w2, hrun, ho2, hb2⟩ := push_st' w1 w.heap.size oa m oc R u Hm.out.symm (hown.out.below hb1) (by omega) hbw1.size
          have Ho2 := Lib.hid ho2
          have Hb2 := Lib.hid (hbw1.trans hb2)
          clear hb1 e0 hbw1 ho2 hb2 c1
          go_wp2_with (at_builtin; first | (refine wpList_val rfl _ _ (run_append_op (.tmp 30) (.tmp 32) 44 44 rfl rfl rfl hrun) ?_) | (refine wpList_val rfl _ _ (run_append_op (.tmp 30) (.tmp 32) 44 44 rfl (by simp) (by simp) hrun) ?_))
          go_roundw
          case rel => exact ⟨k + 1, by omega, by go_num, ya, yc, m + 1, rfl, by rw [Hr.out, List.length_append, ← Hm.out]; rfl, by omega, Lib.hid (by rw [Hr.out]; exact Ho2.out), Hb2⟩
          case measure => simp [intOf]; omega
        · have Hte : Hid (to.toList.isEmpty = false) := Lib.hid (by cases q : to.toList with | nil => exact absurd q hte | cons a l => rfl)
          by_cases c2 : cmpB u to < 0
          · have Hr := Hyes.out (by rw [Hin.out, decide_eq_false c1, decide_eq_true c2, Hte.out]; rfl)
            go_wp2_with fail
            refine (HO1.out wo).mono ?_
            rintro e w1 ⟨rfl, hb1⟩
            have hbw1 := hbw.out.trans (hb1.mono hbw.out.size)
            have Hw1 := Lib.hid hbw1
            have Ho1 := Lib.hid (hown.out.below hb1)
            clear hb1 e0 hbw1 c1
            go_wp2_with fail
            refine (HO2.out w1).mono ?_
            rintro e w1b ⟨rfl, hb1⟩
            have hte2 : to.toList.isEmpty = false := Hte.out
            have hbw1 := Hw1.out.trans (hb1.mono Hw1.out.size)
            obtain ⟨ya, yc, w2, hrun, ho2, hb2⟩ := push_st' w1b w.heap.size oa m oc R u Hm.out.symm (Ho1.out.below hb1) (by omega) hbw1.size
            have Ho2 := Lib.hid ho2
            have Hb2 := Lib.hid (hbw1.trans hb2)
            clear hb1 hbw1 ho2 hb2
            go_wp2_with (at_builtin; first | (refine wpList_val rfl _ _ (run_append_op (.tmp 30) (.tmp 32) 44 44 rfl rfl rfl hrun) ?_) | (refine wpList_val rfl _ _ (run_append_op (.tmp 30) (.tmp 32) 44 44 rfl (by simp) (by simp) hrun) ?_))
            go_roundw
            case rel => exact ⟨k + 1, by omega, by go_num, ya, yc, m + 1, rfl, by rw [Hr.out, List.length_append, ← Hm.out]; rfl, by omega, Lib.hid (by rw [Hr.out]; exact Ho2.out), Hb2⟩
            case measure => simp [intOf]; omega
          · have Hr := Hno.out (by rw [Hin.out, decide_eq_false c1, decide_eq_false c2, Hte.out]; rfl)
            go_wp2_with fail
            refine (HO1.out wo).mono ?_
            rintro e w1 ⟨rfl, hb1⟩
            have Hw1 := Lib.hid (hbw.out.trans (hb1.mono hbw.out.size))
            have Ho1 := Lib.hid (hown.out.below hb1)
            clear hb1 e0 c1
            go_wp2_with fail
            refine (HO2.out w1).mono ?_
            rintro e w1b ⟨rfl, hb1⟩
            have hte2 : to.toList.isEmpty = false := Hte.out
            have c2' : decide (cmpB u to < 0) = false := decide_eq_false (by omega)
            have Ho2 := Lib.hid (Ho1.out.below hb1)
            have Hb2 := Lib.hid (Hw1.out.trans (hb1.mono Hw1.out.size))
            clear hb1
            go_wp2_with fail
            go_roundw
            case rel => exact ⟨k + 1, by omega, by go_num, oa, oc, m, rfl, by rw [Hr.out]; exact Hm.out, by omega, Lib.hid (by rw [Hr.out]; exact Ho2.out), Hb2⟩
            case measure => simp [intOf]; omega
    · obtain rfl : n = k := by omega
      have hR2 := HR.out
      rw [Hn.out, List.take_length] at hR2
      have HR2 := Lib.hid hR2
      clear hR2
      go_wp2_with fail
      go_ret
      refine ⟨_, rfl, ?_, hbw.out⟩
      rw [← HR2.out]
      exact hown.out
end Go.Proofs.Ytbnodgoccmhjkaa.Tithe
