/- The document's with: a key in its place, once: plain and walked. -/
import Derived.Test.YtbnodgoccmhjkaaFlatGet
import Derived.Test.YtbnodgoccmhjkaaRefOrd
namespace Go.Proofs.Ytbnodgoccmhjkaa.Tithe
open Go.RowKit Go.Sort Go.Shelf
set_option linter.unusedVariables false
set_option linter.unusedSimpArgs false
set_option maxRecDepth 100000
theorem cb_lt : ∀ a b : List UInt8, Lib.compareBytes a b < 0 ↔ a < b
  | [], [] => by simp [Lib.compareBytes]
  | [], b :: bs => by simp [Lib.compareBytes]
  | a :: xs, [] => by simp [Lib.compareBytes]
  | a :: xs, b :: bs => by
    rw [List.cons_lt_cons_iff]
    unfold Lib.compareBytes
    by_cases h : a < b
    · rw [if_pos h]; simp [h]
    · rw [if_neg h]
      by_cases h2 : b < a
      · rw [if_pos h2]
        have : a ≠ b := fun e => by rw [e] at h2; exact UInt8.lt_irrefl _ h2
        simp [h, this]
      · rw [if_neg h2, cb_lt xs bs]
        have : a = b := u8_eq h h2
        simp [h, this]
theorem leB_cmp (x y : List UInt8) : leB x y = true ↔ cmpB (ba x) (ba y) ≤ 0 := by
  have h1 : leB x y = true ↔ ¬ y < x := by simp only [leB, decide_eq_true_eq]; exact List.not_lt.symm
  have h2 := cb_lt y x
  have h3 := cb_swap x y
  rw [h1, ← h2]
  show _ ↔ Lib.compareBytes (ba x).data.toList (ba y).data.toList ≤ 0
  unfold ba
  simp only []
  omega
/-- a key put in its place -/
def insK (key : ByteArray) : List (List UInt8) → List (List UInt8)
  | [] => [key.data.toList]
  | x :: l => if cmpB key (ba x) < 0 then key.data.toList :: x :: l else x :: insK key l
def withL (key : ByteArray) (l : List (List UInt8)) : List (List UInt8) := if key.data.toList ∈ l then l else insK key l
def stepW (key : ByteArray) (st : List (List UInt8) × Bool) (x : List UInt8) : List (List UInt8) × Bool := if st.2 = false ∧ cmpB key (ba x) < 0 then (st.1 ++ [key.data.toList] ++ [x], true) else (st.1 ++ [x], st.2)
def stW (key : ByteArray) (l : List (List UInt8)) : List (List UInt8) × Bool := l.foldl (stepW key) ([], false)
theorem stW_snoc (key : ByteArray) (l : List (List UInt8)) (x : List UInt8) : stW key (l ++ [x]) = stepW key (stW key l) x := by unfold stW; rw [List.foldl_append]; rfl
theorem foldW_true (key : ByteArray) : ∀ (l acc : List (List UInt8)), l.foldl (stepW key) (acc, true) = (acc ++ l, true)
  | [], acc => by simp
  | x :: l, acc => by
    show l.foldl (stepW key) (stepW key (acc, true) x) = _
    have : stepW key (acc, true) x = (acc ++ [x], true) := by unfold stepW; rw [if_neg (fun h => by cases h.1)]
    rw [this, foldW_true key l]; simp
def finW (key : ByteArray) (st : List (List UInt8) × Bool) : List (List UInt8) := if st.2 = true then st.1 else st.1 ++ [key.data.toList]
theorem foldW_false (key : ByteArray) : ∀ (l acc : List (List UInt8)), finW key (l.foldl (stepW key) (acc, false)) = acc ++ insK key l
  | [], acc => rfl
  | x :: l, acc => by
    show finW key (l.foldl (stepW key) (stepW key (acc, false) x)) = _
    unfold insK
    by_cases h : cmpB key (ba x) < 0
    · have : stepW key (acc, false) x = (acc ++ [key.data.toList] ++ [x], true) := by unfold stepW; rw [if_pos ⟨rfl, h⟩]
      rw [this, foldW_true, if_pos h]
      show acc ++ [key.data.toList] ++ [x] ++ l = _
      simp
    · have : stepW key (acc, false) x = (acc ++ [x], false) := by unfold stepW; rw [if_neg (fun q => h q.2)]
      rw [this, foldW_false key l, if_neg h]; simp
theorem finW_all (key : ByteArray) (l : List (List UInt8)) : finW key (stW key l) = insK key l := foldW_false key l []
theorem insK_mem (key : ByteArray) (y : List UInt8) : ∀ l, y ∈ insK key l ↔ y = key.data.toList ∨ y ∈ l
  | [] => by simp [insK]
  | x :: l => by
    unfold insK
    split
    · simp
    · rw [List.mem_cons, insK_mem key y l, List.mem_cons]
      constructor
      · rintro (h | h | h)
        · exact .inr (.inl h)
        · exact .inl h
        · exact .inr (.inr h)
      · rintro (h | h | h)
        · exact .inr (.inl h)
        · exact .inl h
        · exact .inr (.inr h)
theorem insK_len (key : ByteArray) : ∀ l, (insK key l).length = l.length + 1
  | [] => rfl
  | x :: l => by
    unfold insK
    split
    · rfl
    · rw [List.length_cons, insK_len key l, List.length_cons]
theorem insK_up (key : ByteArray) : ∀ l, l.Pairwise (fun a b => leB a b = true) → (insK key l).Pairwise (fun a b => leB a b = true)
  | [], _ => List.pairwise_singleton _ _
  | x :: l, h => by
    rw [List.pairwise_cons] at h
    unfold insK
    by_cases hc : cmpB key (ba x) < 0
    · rw [if_pos hc, List.pairwise_cons, List.pairwise_cons]
      have hx : leB key.data.toList x = true := (leB_cmp _ _).2 (by rw [ba_list]; omega)
      refine ⟨fun y hy => ?_, h⟩
      rcases List.mem_cons.1 hy with e | e
      · rw [e]; exact hx
      · exact leB_trans _ _ _ hx (h.1 y e)
    · rw [if_neg hc, List.pairwise_cons]
      refine ⟨fun y hy => ?_, insK_up key l h.2⟩
      rcases (insK_mem key y l).1 hy with e | e
      · rw [e]
        refine (leB_cmp _ _).2 ?_
        rw [ba_list, cmpB_swap key (ba x)]; omega
      · exact h.1 y e
theorem insK_nd (key : ByteArray) : ∀ l, l.Nodup → key.data.toList ∉ l → (insK key l).Nodup
  | [], _, _ => by simp [insK]
  | x :: l, h, hn => by
    rw [List.nodup_cons] at h
    unfold insK
    split
    · rw [List.nodup_cons, List.nodup_cons]; exact ⟨hn, h⟩
    · rw [List.nodup_cons, insK_mem]
      refine ⟨?_, insK_nd key l h.2 (fun q => hn (List.mem_cons_of_mem _ q))⟩
      rintro (e | e)
      · exact hn (by rw [e]; exact List.mem_cons_self)
      · exact h.1 e
theorem withL_mem (key : ByteArray) (y : List UInt8) (l : List (List UInt8)) : y ∈ withL key l ↔ y = key.data.toList ∨ y ∈ l := by
  unfold withL
  split
  · rename_i h
    constructor
    · exact .inr
    · rintro (e | e)
      · rw [e]; exact h
      · exact e
  · exact insK_mem _ _ _
theorem withL_len (key : ByteArray) (l : List (List UInt8)) : (withL key l).length ≤ l.length + 1 := by
  unfold withL
  split
  · omega
  · rw [insK_len]; exact Nat.le_refl _
theorem withL_up (key : ByteArray) {l : List (List UInt8)} (h : l.Pairwise (fun a b => leB a b = true)) : (withL key l).Pairwise (fun a b => leB a b = true) := by
  unfold withL
  split
  · exact h
  · exact insK_up key l h
theorem withL_nd (key : ByteArray) {l : List (List UInt8)} (h : l.Nodup) : (withL key l).Nodup := by
  unfold withL
  split
  · exact h
  · rename_i hn; exact insK_nd key l h hn
/-- a row of texts of a call's own -/
def OwnSt (W : World) (base : Nat) (v : Value) (ss : List (List UInt8)) : Prop := W.ownsRow base 9 1 v ss.length (ss.map encStr)
theorem push_st' (W0 : World) (base : Nat) (xa : Option Addr) (rl xc : Nat) (l : List (List UInt8)) (u : ByteArray) (hn : l.length = rl) (h : OwnSt W0 base (.slice xa rl xc) l) (hl : rl ≤ 1000000) (hb : base ≤ W0.heap.size) :
    ∃ ya yc w2, (Builtin.append_ #[44, 44] 44 #[.slice xa rl xc, .slice (some ⟨W0.heap.size, 0, none⟩) 1 1]).run Try.prog (W0.alloc (.cells #[.string u] 9)) = .ok (.slice ya (rl + 1) yc) w2 ∧
      OwnSt w2 base (.slice ya (rl + 1) yc) (l ++ [u.data.toList]) ∧ Below base W0 w2 := by
  unfold OwnSt at h
  rw [hn] at h
  obtain ⟨ya, yc, w2, h1, h2, h3⟩ := push_st W0 base xa rl xc l u.data.toList h hl hb
  have e : encStr u.data.toList = .string u := by show Value.string (ba u.data.toList) = _; rw [ba_list]
  rw [e] at h1 h3
  refine ⟨ya, yc, w2, h1, ?_, ?_⟩
  · unfold OwnSt
    rw [List.length_append, List.length_singleton, hn]
    exact h2
  · exact ((Below.refl base W0).alloc hb _).grown h3 (Nat.le_trans hb (by simp)) (fun g e => (h.lt g e).1)
theorem OwnSt.below {W W' : World} {base : Nat} {v : Value} {ss : List (List UInt8)} (h : OwnSt W base v ss) (hb : Below W.heap.size W W') : OwnSt W' base v ss := own_below h hb
theorem OwnSt.mono {W : World} {base b2 : Nat} {v : Value} {ss : List (List UInt8)} (h : OwnSt W base v ss) (hb : b2 ≤ base) : OwnSt W b2 v ss := own_mono h hb
attribute [local go_sem] Oper.semAt_some
set_option maxHeartbeats 6400000 in
theorem with_any (v : Value) (l : List (List UInt8)) (key : ByteArray) (base : Nat) (w : World) (h : OwnSt w base v l) (hl : l.length ≤ 100000) (hle : ∀ x ∈ l, x.length ≤ maxLen) (hk : key.size ≤ maxLen) (hb : base ≤ w.heap.size) :
    Calls Try.prog 34 #[v, .string key] w fun e w' => ∃ v', e = .returned v' ∧ OwnSt w' base v' (withL key l) ∧ Below w.heap.size w w' := by
  obtain ⟨a, c, rfl⟩ := own_slice h
  have Hle := Lib.hid hle
  have H := Lib.hid h
  have Hbs := Lib.hid hb
  obtain ⟨n, hn⟩ : ∃ n, n = l.length := ⟨_, rfl⟩
  rw [← hn] at H hl ⊢
  have hcl := fun (h0 : 0 < n) => own_str (by have := h; unfold OwnSt at this; rw [← hn] at this; exact this) hn.symm h0
  have Hcl := Lib.hid hcl
  have Hn := Lib.hid hn
  have Hk := Lib.hid hk
  clear h hle hn hcl hk hb
  go_enter Try.func34, Try.ntmps34
  go_wp2_with fail
  go_loopw [5, 6, 7] (fun ov pv iv wr => ∃ k : Nat, k ≤ n ∧ iv = .int .i64 k ∧ ∃ oa oc m, ov = .slice oa m oc ∧ m = (stW key (l.take k)).1.length ∧ pv = .bool (stW key (l.take k)).2 ∧ m ≤ 2 * k + 1 ∧ Hid (OwnSt wr w.heap.size (.slice oa m oc) (stW key (l.take k)).1) ∧ Hid (∀ j y, j < k → l[j]? = some y → ba y ≠ key) ∧ Hid (Below w.heap.size w wr)) (fun _ _ iv _ => n - (intOf iv).toNat)
  case atStart => exact ⟨0, Nat.zero_le _, rfl, none, 0, 0, rfl, rfl, rfl, by omega, Lib.hid (World.ownsRow_nil _ _ _ _), Lib.hid (fun j y hj => absurd hj (Nat.not_lt_zero _)), Lib.hid (Below.refl _ _)⟩
  case round =>
    obtain ⟨wo, rfl⟩ : ∃ wo : World, wo = wr := ⟨_, rfl⟩
    obtain ⟨k, hk2, rfl, oa, oc, m, rfl, hm, rfl, hmk, hown, hno, hbw⟩ := hrel
    obtain ⟨st, hst⟩ : ∃ st, st = stW key (l.take k) := ⟨_, rfl⟩
    rw [← hst] at hm hown ⊢
    have Hst := Lib.hid hst
    have Hm := Lib.hid hm
    clear hst hm
    obtain ⟨out, put⟩ := st
    dsimp only at hown Hm ⊢
    by_cases hkn : k < n
    · obtain ⟨g, rfl, hgl, hce⟩ := Hcl.out (by omega)
      obtain ⟨x, hxk⟩ : ∃ x, l[k]? = some x := ⟨_, List.getElem?_eq_getElem (by rw [← Hn.out]; exact hkn)⟩
      have e0 := (hbw.out.cell (p := ⟨g, k, none⟩) hgl).trans (hce k x hxk)
      have hxl := Hle.out x (List.mem_of_getElem? hxk)
      have htk : stW key (l.take (k + 1)) = stepW key (out, put) x := by rw [List.take_add_one, hxk]; show stW key (l.take k ++ [x]) = _; rw [stW_snoc, Hst.out]
      obtain ⟨u, hu⟩ : ∃ u, u = ba x := ⟨_, rfl⟩
      have hux : u.data.toList = x := (ba_eq hu.symm).symm
      have hul : u.size ≤ maxLen := by rw [← ba_len, hux]; exact hxl
      rw [← hu] at e0
      have hnx : ¬ u = key → Hid (∀ j y, j < k + 1 → l[j]? = some y → ba y ≠ key) := fun hne => Lib.hid (fun j z hj hz => by
        by_cases e : j = k
        · subst e
          rw [hxk] at hz
          injection hz with hz
          rw [← hz, ← hu]
          exact hne
        · exact hno.out j z (by omega) hz)
      have Hnx := Lib.hid hnx
      have Htk := Lib.hid htk
      have Hux := Lib.hid hux
      have Hhu := Lib.hid hu
      have Hul := Lib.hid hul
      have Hhl : Hid (u = key → key.data.toList ∈ l) := Lib.hid (fun e => by rw [← e, hux]; exact List.mem_of_getElem? hxk)
      clear hce hxk hxl htk hu hux hul hnx hno
      by_cases hue : u = key
      · subst hue
        have H1 := Lib.hid (show withL u l = l by unfold withL; rw [if_pos (Hhl.out rfl)])
        go_wp2_with fail
        go_ret
        refine ⟨_, rfl, ?_, hbw.out⟩
        rw [H1.out]
        exact H.out.below hbw.out
      · have hq := str_noO hue
        have Hnx2 := Hnx.out hue
        have hki : (k : Int) < (n : Int) := by omega
        cases put with
        | true =>
          obtain ⟨ya, yc, w2, hrun, ho2, hb2⟩ := push_st' wo w.heap.size oa m oc out u Hm.out.symm hown.out (by omega) hbw.out.size
          have e2 : stW key (l.take (k + 1)) = (out ++ [u.data.toList], true) := by rw [Htk.out]; unfold stepW; rw [if_neg (fun q => by cases q.1), Hux.out]
          have He2 := Lib.hid e2
          have Ho2 := Lib.hid ho2
          have Hb2 := Lib.hid (hbw.out.trans hb2)
          clear e2 ho2 hb2
          go_wp2_with (at_builtin; first | (refine wpList_val rfl _ _ (run_append_op (.tmp 36) (.tmp 41) 44 44 rfl rfl rfl hrun) ?_) | (refine wpList_val rfl _ _ (run_append_op (.tmp 36) (.tmp 41) 44 44 rfl (by simp) (by simp) hrun) ?_))
          go_roundw
          case rel => exact ⟨k + 1, by omega, by go_num, ya, yc, m + 1, rfl, by rw [He2.out, List.length_append, ← Hm.out]; rfl, by rw [He2.out], by omega, Lib.hid (by rw [He2.out]; exact Ho2.out), Hnx2, Hb2⟩
          case measure => simp [intOf]; omega
        | false =>
          have hO := Order_below key u Hk.out Hul.out wo
          have HO := Lib.hid hO
          clear hO
          by_cases hc : cmpB key u < 0
          · have e2 : stW key (l.take (k + 1)) = (out ++ [key.data.toList] ++ [u.data.toList], true) := by rw [Htk.out]; unfold stepW; rw [if_pos ⟨rfl, by rw [← Hhu.out]; exact hc⟩, Hux.out]
            have He2 := Lib.hid e2
            clear e2
            go_wp2_with fail
            refine HO.out.mono ?_
            rintro e w1 ⟨rfl, hb1⟩
            have hbw1 := hbw.out.trans (hb1.mono hbw.out.size)
            obtain ⟨ya, yc, w2, hrun, ho2, hb2⟩ := push_st' w1 w.heap.size oa m oc out key Hm.out.symm (hown.out.below hb1) (by omega) hbw1.size
            have hbw2 := hbw1.trans hb2
            obtain ⟨za, zc, w3, hrun3, ho3, hb3⟩ := push_st' w2 w.heap.size ya (m + 1) yc (out ++ [key.data.toList]) u (by rw [List.length_append, ← Hm.out]; rfl) ho2 (by omega) hbw2.size
            have Ho3 := Lib.hid ho3
            have Hb3 := Lib.hid (hbw2.trans hb3)
            have Hb1 := Lib.hid hbw1
            have e1 : w1.cell? ⟨g, k, none⟩ = some (.string u) := grow_cellO hb1 (block_lt_of_cell e0) e0
            have e2 : w2.cell? ⟨g, k, none⟩ = some (.string u) := (hb2.cell (p := ⟨g, k, none⟩) hgl).trans e1
            clear ho3 hb3 ho2 hb2 hbw1 hbw2 hb1 e0
            go_wp2_with (at_builtin; first | (refine wpList_val rfl _ _ (run_append_op (.tmp 32) (.tmp 34) 44 44 rfl rfl rfl hrun) ?_) | (refine wpList_val rfl _ _ (run_append_op (.tmp 36) (.tmp 41) 44 44 rfl rfl rfl hrun3) ?_))
            go_roundw
            case rel => exact ⟨k + 1, by omega, by go_num, za, zc, m + 1 + 1, rfl, by rw [He2.out, List.length_append, List.length_append, ← Hm.out]; rfl, by rw [He2.out], by omega, Lib.hid (by rw [He2.out]; exact Ho3.out), Hnx2, Hb3⟩
            case measure => simp [intOf]; omega
          · have e2 : stW key (l.take (k + 1)) = (out ++ [u.data.toList], false) := by rw [Htk.out]; unfold stepW; rw [if_neg (fun q => hc (by rw [Hhu.out]; exact q.2)), Hux.out]
            have He2 := Lib.hid e2
            clear e2
            go_wp2_with fail
            refine HO.out.mono ?_
            rintro e w1 ⟨rfl, hb1⟩
            have hbw1 := hbw.out.trans (hb1.mono hbw.out.size)
            obtain ⟨ya, yc, w2, hrun, ho2, hb2⟩ := push_st' w1 w.heap.size oa m oc out u Hm.out.symm (hown.out.below hb1) (by omega) hbw1.size
            have Ho2 := Lib.hid ho2
            have Hb2 := Lib.hid (hbw1.trans hb2)
            have e1 : w1.cell? ⟨g, k, none⟩ = some (.string u) := grow_cellO hb1 (block_lt_of_cell e0) e0
            clear ho2 hb2 hbw1 hb1 e0
            go_wp2_with (at_builtin; first | (refine wpList_val rfl _ _ (run_append_op (.tmp 36) (.tmp 41) 44 44 rfl rfl rfl hrun) ?_) | (refine wpList_val rfl _ _ (run_append_op (.tmp 36) (.tmp 41) 44 44 rfl (by simp) (by simp) hrun) ?_))
            go_roundw
            case rel => exact ⟨k + 1, by omega, by go_num, ya, yc, m + 1, rfl, by rw [He2.out, List.length_append, ← Hm.out]; rfl, by rw [He2.out], by omega, Lib.hid (by rw [He2.out]; exact Ho2.out), Hnx2, Hb2⟩
            case measure => simp [intOf]; omega
    · obtain rfl : n = k := by omega
      have hnm : key.data.toList ∉ l := fun q => by
        obtain ⟨j, hj⟩ := List.getElem?_of_mem q
        exact hno.out j _ (by rw [Hn.out]; exact (List.getElem?_eq_some_iff.1 hj).1) hj (ba_list key)
      have hfi := finW_all key l
      have hst2 := Hst.out
      rw [Hn.out, List.take_length] at hst2
      rw [← hst2] at hfi
      have hwi : withL key l = insK key l := by unfold withL; rw [if_neg hnm]
      rw [← hfi] at hwi
      have Hwi := Lib.hid hwi
      clear hnm hfi hst2 hwi hno
      cases put with
      | true =>
        go_wp2_with fail
        go_ret
        refine ⟨_, rfl, ?_, hbw.out⟩
        rw [Hwi.out]
        exact hown.out.mono Hbs.out
      | false =>
        obtain ⟨ya, yc, w2, hrun, ho2, hb2⟩ := push_st' wo w.heap.size oa m oc out key Hm.out.symm hown.out (by omega) hbw.out.size
        have Ho2 := Lib.hid ho2
        have Hb2 := Lib.hid (hbw.out.trans hb2)
        clear ho2 hb2
        go_wp2_with (at_builtin; first | (refine wpList_val rfl _ _ (run_append_op (.tmp 45) (.tmp 47) 44 44 rfl rfl rfl hrun) ?_) | (refine wpList_val rfl _ _ (run_append_op (.tmp 45) (.tmp 47) 44 44 rfl (by simp) (by simp) hrun) ?_))
        go_ret
        refine ⟨_, rfl, ?_, Hb2.out⟩
        rw [Hwi.out]
        exact Ho2.out.mono Hbs.out
end Go.Proofs.Ytbnodgoccmhjkaa.Tithe
