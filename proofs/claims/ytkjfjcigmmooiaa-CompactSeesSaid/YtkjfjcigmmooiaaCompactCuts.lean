/- The law CompactCuts, walked. -/
import Derived.Test.YtkjfjcigmmooiaaEntAwake
import Derived.Laws.AppendOwnNone
namespace Go.Proofs.Ytkjfjcigmmooiaa.Tithe
open Go.RowKit Go.Sort Go.Shelf
set_option linter.unusedVariables false
theorem wpList_append_two {P : Program} {w : World} {ops : Array Oper} {rest : List Oper} {o : Oper} {a : Act} {Q : Exit → Act → World → Prop} (hgd : o.guard = none) (s x : Operand) (t : TypeId)
    (ho : o.op = .call { callee := .builtin .append, args := #[s, x], argTypes := #[t, t] })
    (base : Nat) (e : TypeId) (i : TypeInfo) (z : Value) (size bytes : Nat) (ht : P.underlying t = some (.slice e)) (hi : P.info? e = some i) (hz : i.zero = some z)
    (hsize : i.size = size) (hby : i.bytes = bytes) (hzs : z.cells.size = size) (hsz : 0 < size)
    (v : Value) (n : Nat) (xs : List Value) (hs : a.eval s = v) (hown : w.ownsRow base e size v n xs)
    (vx : Value) (m b2 : Nat) (news : List Value) (hx : a.eval x = vx) (hsrc : w.ownsRow b2 e size vx m news) (h1 : ∀ u ∈ news, u.oneCell' = true)
    (h63 : n + m ≤ maxLen) (hbytes : (n + m) * bytes ≤ 140737488355328) (hbase : base ≤ w.heap.size)
    (h : ∀ v' w', w'.ownsRow base e size v' (n + m) (xs ++ news) → w.grownBy w' v.ownBlock → wpList P ops Q rest (a.put o.dst v') w') : wpList P ops Q (o :: rest) a w := by
  have hl := hsrc.1
  rcases Nat.eq_zero_or_pos m with hm | hm
  · subst hm
    obtain rfl : news = [] := List.eq_nil_of_length_eq_zero (by omega)
    rcases hsrc.2 with ⟨rfl, _⟩ | ⟨g, cap, cur, rfl, _⟩
    · refine wpList_append_own_none hgd s x t ho base e i size ht hi v n xs hs hown hx ?_
      exact h v w (by rw [List.append_nil]; exact hown) (World.grownBy.refl _ _)
    · refine wpList_append_own _ hgd s x t ho base e i z size bytes ht hi hz hsize hby hzs hsz v n xs hs hown ⟨g, 0, none⟩ 0 cap [] hx (by simp) (fun j u q => by simp at q) (fun u q => by simp at q) h63 hbytes hbase ?_
      intro v' w' q1 q2 _
      exact h v' w' q1 q2
  · obtain ⟨g, cap, rfl, -, -⟩ := hsrc.form hm
    refine wpList_append_own _ hgd s x t ho base e i z size bytes ht hi hz hsize hby hzs hsz v n xs hs hown ⟨g, 0, none⟩ m cap news hx hl (fun j u q => hsrc.cells rfl j u q) h1 h63 hbytes hbase ?_
    intro v' w' q1 q2 _
    exact h v' w' q1 q2
/-! ### the plain law -/
theorem right_at {l : List En} {most : Int} (h : rightE l most = true) {k : Nat} {x : En} (hx : l[k]? = some x) : x.val.size ≤ 300 ∧ okK x.key = true ∧ (k = 0 ∨ cmpK (l.getD (k - 1) En.nil).key x.key < 0) := by
  unfold rightE at h
  rw [Bool.and_eq_true] at h
  obtain ⟨h1, -⟩ := h
  unfold rightTo at h1
  rw [List.all_eq_true] at h1
  have := h1 k (List.mem_range.2 (List.getElem?_eq_some_iff.1 hx).1)
  unfold rightAt at this
  rw [hx] at this
  simpa [and_assoc] using this
theorem right_len {l : List En} {most : Int} (h : rightE l most = true) : (l.length : Int) ≤ most := by
  unfold rightE at h
  rw [Bool.and_eq_true] at h
  exact of_decide_eq_true h.2
theorem right_key {l : List En} {most : Int} (h : rightE l most = true) {k : Nat} {x : En} (hx : l[k]? = some x) : 1 ≤ x.key.u.size ∧ x.key.u.size ≤ 64 := by
  have := (right_at h hx).2.1
  unfold okK at this
  simp only [Bool.and_eq_true, decide_eq_true_eq] at this
  omega
theorem right_mono {l : List En} {most : Int} (h : rightE l most = true) : ∀ (d i : Nat) (x y : En), l[i]? = some x → l[i + d]? = some y → cmpB x.key.u y.key.u ≤ 0
  | 0, i, x, y, hx, hy => by
    rw [Nat.add_zero, hx] at hy
    injection hy with hy
    rw [hy, cmpB_self]; omega
  | d + 1, i, x, y, hx, hy => by
    have hlt := (List.getElem?_eq_some_iff.1 hy).1
    have hz := List.getElem?_eq_getElem (l := l) (i := i + d) (by omega)
    have h1 := right_mono h d i x _ hx hz
    have h2 := (right_at h hy).2.2
    rw [show i + (d + 1) - 1 = i + d by omega, List.getD_eq_getElem?_getD, hz] at h2
    rcases h2 with h2 | h2
    · omega
    · exact cmpB_trans' h1 (cmpK_le _ _ h2)
theorem cut_front {l : List En} {upto : ByteArray} (hne : cmpB upto ⟨#[]⟩ ≠ 0) {i : Nat} {x : En} (hx : (l.take (cutN l upto))[i]? = some x) : cmpB x.key.u upto ≤ 0 := by
  rw [List.getElem?_take] at hx
  split at hx
  · rename_i hi
    unfold cutN at hi
    rw [if_neg hne] at hi
    cases hf : l.findIdx? (fun x => decide (0 < cmpB x.key.u upto)) with
    | none =>
      have := List.findIdx?_eq_none_iff.1 hf x (List.mem_of_getElem? hx)
      simpa using this
    | some p =>
      rw [hf] at hi
      obtain ⟨h1, h2, h3⟩ := List.findIdx?_eq_some_iff_getElem.1 hf
      have h4 := h3 i hi
      have e := (List.getElem?_eq_some_iff.1 hx).2
      rw [e] at h4
      simpa using h4
  · cases hx
theorem cut_rest {l : List En} {most : Int} (hr : rightE l most = true) {upto : ByteArray} {i : Nat} {x : En} (hx : (l.drop (cutN l upto))[i]? = some x) : cmpB upto ⟨#[]⟩ ≠ 0 ∧ 0 < cmpB x.key.u upto := by
  rw [List.getElem?_drop] at hx
  have hlt := (List.getElem?_eq_some_iff.1 hx).1
  by_cases hne : cmpB upto ⟨#[]⟩ = 0
  · exfalso
    unfold cutN at hlt
    rw [if_pos hne] at hlt
    omega
  · refine ⟨hne, ?_⟩
    unfold cutN at hx hlt
    rw [if_neg hne] at hx hlt
    cases hf : l.findIdx? (fun x => decide (0 < cmpB x.key.u upto)) with
    | none =>
      rw [hf] at hlt
      dsimp only at hlt
      omega
    | some p =>
      rw [hf] at hx
      obtain ⟨h1, h2, -⟩ := List.findIdx?_eq_some_iff_getElem.1 hf
      have hp := List.getElem?_eq_getElem h1
      have h4 := right_mono hr i p _ _ hp hx
      have h5 : 0 < cmpB (l[p]).key.u upto := by simpa using h2
      have h6 : cmpB upto (l[p]).key.u < 0 := by rw [cmpB_swap]; omega
      have h7 := cmpB_lt_trans h6 h4
      rw [cmpB_swap upto x.key.u] at *
      omega
theorem empty_iff (upto : ByteArray) : upto.toList.isEmpty = decide (cmpB upto ⟨#[]⟩ = 0) := by
  by_cases h : cmpB upto ⟨#[]⟩ = 0
  · rw [decide_eq_true h, (cmpB_zero _ _).1 h, toList_eq]; rfl
  · rw [decide_eq_false h]
    cases hq : upto.toList.isEmpty with
    | false => rfl
    | true =>
      exfalso; apply h; rw [cmpB_zero]; apply ba_ext
      rw [List.isEmpty_iff] at hq
      rw [← toList_eq, hq]
set_option maxHeartbeats 1600000 in
theorem cuts_no (v : Value) (l : List En) (upto : ByteArray) (w : World) (h : IsEs w v l) (hr : rightE l 60 = false) :
    Calls Try.prog 3 #[v, .string upto] w fun e w' => e = .returned (.bool true) ∧ Below w.heap.size w w' := by
  have h1 := right_any v l 60 w h
  rw [hr] at h1
  have H1 := Lib.hid h1
  clear h1 hr
  obtain ⟨a, c, rfl, -, -, -⟩ := id h
  clear h
  go_enter Try.func3, Try.ntmps3
  go_wp2_with fail
  refine H1.out.mono ?_
  rintro e w1 ⟨rfl, hb1⟩
  go_wp2_with fail
  refine (awake_any _).mono ?_
  rintro e w2 ⟨rfl, hb2⟩
  go_wp2
  go_ret
  exact ⟨rfl, hb1.trans (hb2.mono hb1.size)⟩
set_option maxHeartbeats 3200000 in
set_option maxRecDepth 100000 in
theorem cuts_yes (v : Value) (l : List En) (upto : ByteArray) (w : World) (h : IsEs w v l) (hu : upto.size ≤ maxLen) (hr : rightE l 60 = true) :
    Calls Try.prog 3 #[v, .string upto] w fun e w' => e = .returned (.bool true) ∧ Below w.heap.size w w' := by
  obtain ⟨i0, hi0, hz0, hz1, hz2⟩ := info_parts' enInfo
  have h1 := right_any v l 60 w h
  rw [hr] at h1
  have H1 := Lib.hid h1
  have H := Lib.hid h
  have Hr := Lib.hid hr
  have hl60 := right_len hr
  have Hu := Lib.hid hu
  have Hie := Lib.hid (empty_iff upto)
  obtain ⟨a, c, rfl, -, -, -⟩ := id h
  have Hi0 := Lib.hid hi0
  have Hz0 := Lib.hid hz0
  have Hz1 := Lib.hid hz1
  have Hz2 := Lib.hid hz2
  clear h1 hr h hu hi0 hz0 hz1 hz2
  go_enter Try.func3, Try.ntmps3
  go_wp2_with fail
  refine H1.out.mono ?_
  rintro e w1 ⟨rfl, hb1⟩
  have Hb1 := Lib.hid hb1
  have hcut := cut_any _ l upto w1 (H.out.below hb1) (by omega)
  have Hcut := Lib.hid hcut
  have hb1s := hb1.size
  clear hb1 hcut
  go_wp2_with fail
  refine Hcut.out.mono ?_
  rintro e w2 ⟨v1, v2, rfl, ho1, ho2, hb2⟩
  have Hb2 := Lib.hid (Hb1.out.trans (hb2.mono Hb1.out.size))
  have hb2s := hb2.size
  have Hfront := Lib.hid (fun (hne : cmpB upto ⟨#[]⟩ ≠ 0) (i : Nat) (x : En) (hx : (l.take (cutN l upto))[i]? = some x) => cut_front (l := l) hne hx)
  have Hrest := Lib.hid (fun (i : Nat) (x : En) (hx : (l.drop (cutN l upto))[i]? = some x) => cut_rest Hr.out hx)
  have Hk1 := Lib.hid (fun (i : Nat) (x : En) (hx : (l.take (cutN l upto))[i]? = some x) => right_key Hr.out (k := i) (x := x) (by rw [List.getElem?_take] at hx; split at hx; exact hx; cases hx))
  have Hk2 := Lib.hid (fun (i : Nat) (x : En) (hx : (l.drop (cutN l upto))[i]? = some x) => right_key Hr.out (k := cutN l upto + i) (x := x) (by rw [List.getElem?_drop] at hx; exact hx))
  have Hall : Hid (l.take (cutN l upto) ++ l.drop (cutN l upto) = l) := List.take_append_drop _ _
  generalize l.take (cutN l upto) = l1 at *
  generalize l.drop (cutN l upto) = l2 at *
  obtain ⟨a1, c1, rfl⟩ := own_slice ho1
  obtain ⟨a2, c2, rfl⟩ := own_slice ho2
  obtain ⟨-, -, hm1, hx1⟩ := (isSl_own en_len ho1).at
  obtain ⟨-, -, hm2, hx2⟩ := (isSl_own en_len ho2).at
  have hlen : l1.length + l2.length = l.length := by rw [← List.length_append, Hall.out]
  obtain ⟨n1, hn1⟩ : ∃ n1, n1 = l1.length := ⟨_, rfl⟩
  obtain ⟨n2, hn2⟩ : ∃ n2, n2 = l2.length := ⟨_, rfl⟩
  rw [← hn1] at ho1 hx1 hlen ⊢
  rw [← hn2] at ho2 hx2 hlen ⊢
  have hn60 : n1 + n2 ≤ 60 := by omega
  have Hn1 := Lib.hid hn1
  have Hn2 := Lib.hid hn2
  have Ho1 := Lib.hid ho1
  have Ho2 := Lib.hid ho2
  have Hx1 := Lib.hid hx1
  have Hx2 := Lib.hid hx2
  clear hb2 ho1 ho2 hx1 hx2 hn1 hn2 hlen
  go_wp2_with fail
  go_loopw [23] (fun i wr => ∃ k : Nat, k ≤ n1 ∧ i = .int .i64 k ∧ Below w2.heap.size w2 wr) (fun i _ => n1 - (intOf i).toNat)
  case atStart => exact ⟨0, Nat.zero_le _, rfl, Below.refl _ _⟩
  case round =>
    obtain ⟨wo, rfl⟩ : ∃ wo : World, wo = wr := ⟨_, rfl⟩
    obtain ⟨k, hk, rfl, hbk⟩ := hrel
    have Hbk := Lib.hid hbk
    clear hbk
    by_cases hkn : k < n1
    · obtain ⟨b, off, rfl, hcell⟩ := Hx1.out (by omega)
      obtain ⟨x, hxk⟩ : ∃ x, l1[k]? = some x := ⟨_, List.getElem?_eq_getElem (by rw [← Hn1.out]; exact hkn)⟩
      obtain ⟨c0, c1, c2, c3⟩ := IsEs.row hcell hxk
      have d0 := (Hbk.out.cell (block_lt_of_cell c0)).trans c0
      have d1 := (Hbk.out.cell (block_lt_of_cell c1)).trans c1
      have d2 := (Hbk.out.cell (block_lt_of_cell c2)).trans c2
      have d3 := (Hbk.out.cell (block_lt_of_cell c3)).trans c3
      have hks := Hk1.out k x hxk
      have hfact := fun hne => Hfront.out hne k x hxk
      clear c0 c1 c2 c3 hcell hxk
      obtain ⟨⟨u, s, kd⟩, val⟩ := x
      dsimp only at d0 d1 d2 d3 hks hfact
      have e0 : (wo.alloc (.cells #[.string u, .int .i64 s, .int .i64 kd, .string val] 30)).cell? ⟨wo.heap.size, 0, none⟩ = some (.string u) := by rw [World.cell?_alloc_mark]; rfl
      have hbB : Below w2.heap.size w2 (wo.alloc (.cells #[.string u, .int .i64 s, .int .i64 kd, .string val] 30)) := Hbk.out.alloc Hbk.out.size _
      have HbB := Lib.hid hbB
      have E0 := Lib.hid e0
      have Hks := Lib.hid hks
      have Hfact := Lib.hid hfact
      clear hbB e0 hks hfact
      by_cases hne : cmpB upto ⟨#[]⟩ = 0
      · have hie := Hie.out
        rw [decide_eq_true hne] at hie
        clear hne
        go_wp2
        go_roundw
        case rel => exact ⟨k + 1, by omega, by go_num, HbB.out⟩
        case measure => simp [intOf]; omega
      · have hie := Hie.out
        rw [decide_eq_false hne] at hie
        have hle := Hfact.out hne
        have Hord := Lib.hid (Order_any u upto (by unfold maxLen; have := Hks.out; omega) Hu.out (wo.alloc (.cells #[.string u, .int .i64 s, .int .i64 kd, .string val] 30)))
        have hgt : ¬ 0 < cmpB u upto := by omega
        generalize cmpB u upto = cv at *
        clear hne hle
        go_wp2_with fail
        refine Hord.out.mono ?_
        rintro e w5 ⟨rfl, nd, rfl⟩
        have Hb5 := Lib.hid (below_drewN HbB.out nd)
        go_wp2
        go_roundw
        case rel => exact ⟨k + 1, by omega, by go_num, Hb5.out⟩
        case measure => simp [intOf]; omega
    · obtain rfl : n1 = k := by omega
      have Hbk1 := Hbk
      go_wp2_with fail
      go_loopw [40] (fun i wr => ∃ k : Nat, k ≤ n2 ∧ i = .int .i64 k ∧ Below w2.heap.size w2 wr) (fun i _ => n2 - (intOf i).toNat)
      case atStart => exact ⟨0, Nat.zero_le _, rfl, Hbk1.out⟩
      case round =>
        obtain ⟨wo, rfl⟩ : ∃ wo : World, wo = wr := ⟨_, rfl⟩
        obtain ⟨k, hk, rfl, hbk⟩ := hrel
        have Hbk := Lib.hid hbk
        clear hbk
        by_cases hkn : k < n2
        · obtain ⟨b, off, rfl, hcell⟩ := Hx2.out (by omega)
          obtain ⟨x, hxk⟩ : ∃ x, l2[k]? = some x := ⟨_, List.getElem?_eq_getElem (by rw [← Hn2.out]; exact hkn)⟩
          obtain ⟨c0, c1, c2, c3⟩ := IsEs.row hcell hxk
          have d0 := (Hbk.out.cell (block_lt_of_cell c0)).trans c0
          have d1 := (Hbk.out.cell (block_lt_of_cell c1)).trans c1
          have d2 := (Hbk.out.cell (block_lt_of_cell c2)).trans c2
          have d3 := (Hbk.out.cell (block_lt_of_cell c3)).trans c3
          have hks := Hk2.out k x hxk
          have hfact := Hrest.out k x hxk
          clear c0 c1 c2 c3 hcell hxk
          obtain ⟨⟨u, s, kd⟩, val⟩ := x
          dsimp only at d0 d1 d2 d3 hks hfact
          have e0 : (wo.alloc (.cells #[.string u, .int .i64 s, .int .i64 kd, .string val] 30)).cell? ⟨wo.heap.size, 0, none⟩ = some (.string u) := by rw [World.cell?_alloc_mark]; rfl
          have hbB : Below w2.heap.size w2 (wo.alloc (.cells #[.string u, .int .i64 s, .int .i64 kd, .string val] 30)) := Hbk.out.alloc Hbk.out.size _
          have HbB := Lib.hid hbB
          have E0 := Lib.hid e0
          have Hks := Lib.hid hks
          have Hfact := Lib.hid hfact
          clear hbB e0 hks hfact
          have hne := Hfact.out.1
          have hie := Hie.out
          rw [decide_eq_false hne] at hie
          have hgt := Hfact.out.2
          have Hord := Lib.hid (Order_any u upto (by unfold maxLen; have := Hks.out; omega) Hu.out (wo.alloc (.cells #[.string u, .int .i64 s, .int .i64 kd, .string val] 30)))
          have hle : ¬ cmpB u upto ≤ 0 := by omega
          generalize cmpB u upto = cv at *
          clear hne hgt
          go_wp2_with fail
          refine Hord.out.mono ?_
          rintro e w5 ⟨rfl, nd, rfl⟩
          have Hb5 := Lib.hid (below_drewN HbB.out nd)
          go_wp2
          go_roundw
          case rel => exact ⟨k + 1, by omega, by go_num, Hb5.out⟩
          case measure => simp [intOf]; omega
        · obtain rfl : n2 = k := by omega
          have hof1 := own_below Ho1.out Hbk.out
          have hof2 := own_below Ho2.out Hbk.out
          have hi0 := Hi0.out
          have hz0 := Hz0.out
          have hz1 := Hz1.out
          have hz2 := Hz2.out
          have Hof2 := Lib.hid hof2
          have hal : Below wo.heap.size wo (wo.alloc (.cells #[] 30)) := (Below.refl _ _).alloc (Nat.le_refl _) _
          have hof1' := own_below hof1 hal
          clear hof1 hof2
          go_wp2_with (first | (at_builtin; refine wpList_append_two rfl (.tmp 55) (.tmp 56) 22 rfl wo.heap.size 30 i0 (.agg #[.string ⟨#[]⟩, .int .i64 0, .int .i64 0, .string ⟨#[]⟩]) 4 48 Try.underlying22 hi0 hz0 hz1 hz2 rfl (by decide) (.slice (some ⟨wo.heap.size, 0, none⟩) 0 0) 0 [] rfl (ownsRow_empty wo _ _) (.slice a1 n1 c1) n1 w1.heap.size (flat En.cells l1) rfl hof1' (ens_one _) ?p1 ?p2 ?p3 ?_))
          case p1 => unfold maxLen; omega
          case p2 => omega
          case p3 => simp
          intro v5 w5 hown5 hgrow5
          have hg5 : Below wo.heap.size wo w5 := grow_own hal (ownsRow_empty wo 30 4) hgrow5 (Nat.le_refl _) (by simp)
          have hof2 := own_below Hof2.out hg5
          have Hg5 := Lib.hid hg5
          clear hgrow5 hal hof1' hg5
          go_wp2_with (first | (at_builtin; refine wpList_append_two rfl (.tmp 57) (.tmp 58) 22 rfl wo.heap.size 30 i0 (.agg #[.string ⟨#[]⟩, .int .i64 0, .int .i64 0, .string ⟨#[]⟩]) 4 48 Try.underlying22 hi0 hz0 hz1 hz2 rfl (by decide) _ _ _ rfl hown5 (.slice a2 n2 c2) n2 w1.heap.size (flat En.cells l2) rfl hof2 (ens_one _) ?q1 ?q2 ?q3 ?_))
          case q1 => unfold maxLen; omega
          case q2 => omega
          case q3 => exact Hg5.out.size
          intro v6 w6 hown6 hgrow6
          have hg6 : Below wo.heap.size wo w6 := grow_own Hg5.out hown5 hgrow6 (Nat.le_refl _) Hg5.out.size
          have hb6 := Hbk.out.trans (hg6.mono Hbk.out.size)
          have hbw6 : Below w.heap.size w w6 := Hb2.out.trans (hb6.mono Hb2.out.size)
          have hes : IsEs w6 v6 l := by
            rw [← flat_append, Hall.out] at hown6
            refine isSl_own (e := 30) (base := wo.heap.size) en_len ?_
            have e : l.length = n1 + n2 := by rw [← Hall.out, List.length_append, ← Hn1.out, ← Hn2.out]
            rw [e]
            first | exact hown6 | (rw [Nat.zero_add]; exact hown6)
          have hsame := same_any _ _ l w6 hes (H.out.below hbw6)
          have Hsame := Lib.hid hsame
          have Hbw6 := Lib.hid hbw6
          obtain ⟨a6, c6, rfl⟩ := own_slice hown6
          clear hown5 hown6 hgrow6 hg6 hb6 hbw6 hes hsame hof2 hi0 hz0 hz1 hz2
          go_wp2_with fail
          refine Hsame.out.mono ?_
          rintro e w7 ⟨rfl, nd, rfl⟩
          have Hb7 := Lib.hid (below_drewN Hbw6.out nd)
          go_wp2_with fail
          refine (awake_any _).mono ?_
          rintro e w8 ⟨rfl, hb8⟩
          go_wp2
          go_ret
          exact ⟨rfl, Hb7.out.trans (hb8.mono Hb7.out.size)⟩
theorem compactCuts_walk (v : Value) (l : List En) (upto : ByteArray) (w : World) (h : IsEs w v l) (hu : upto.size ≤ maxLen) :
    Calls Try.prog 3 #[v, .string upto] w fun e w' => e = .returned (.bool true) ∧ Below w.heap.size w w' := by
  cases hr : rightE l 60 with
  | false => exact cuts_no v l upto w h hr
  | true => exact cuts_yes v l upto w h hu hr
end Go.Proofs.Ytkjfjcigmmooiaa.Tithe
