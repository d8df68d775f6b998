/- mem.Pick: of an ordered list what a user's key has: walked. -/
import Derived.Test.YtkjfjcigmmooiaaEntCut
import Derived.Test.YtkjfjcigmmooiaaOwnMore
import Derived.Deep.Cut
import Derived.Shelf.RegionOpen
namespace Go.Proofs.Ytkjfjcigmmooiaa.Tithe
open Go.RowKit Go.Sort Go.Shelf
set_option linter.unusedVariables false
set_option linter.unusedSimpArgs false
set_option maxRecDepth 100000
theorem pk_any (a k : Ky) (val : ByteArray) (W : World) :
    Calls Try.prog 48 #[.agg #[.string a.u, .int .i64 a.s, .int .i64 a.k, .string val], .agg #[.string k.u, .int .i64 k.s, .int .i64 k.k]] W fun e W' => e = .returned (.int .i64 (cmpK a k)) ∧ Below W.heap.size W W' := by
  have hb : ∀ o o', Below W.heap.size W ((W.alloc o).alloc o') := fun o o' => ((Below.refl _ _).alloc (Nat.le_refl _) _).alloc (by simp) _
  have Hb := Lib.hid hb
  have hcmp := fun V => kcmp_any a k V
  unfold Ky.v at hcmp
  have Hcmp := Lib.hid hcmp
  clear hb hcmp
  go_enter Try.func48, Try.ntmps48
  go_wp2_with fail
  refine (Hcmp.out _).mono ?_
  rintro e w1 ⟨rfl, hb1⟩
  have HB := Lib.hid ((Hb.out _ _).trans (hb1.mono (Hb.out _ _).size))
  clear hb1
  go_wp2
  go_ret
  exact ⟨rfl, HB.out⟩
def sortE (l : List En) : Prop := ∀ (i j : Nat) (x y : En), i < j → l[i]? = some x → l[j]? = some y → cmpK x.key y.key ≤ 0
/-- the place where a key would stand -/
structure PosE (l : List En) (k : Ky) (p : Nat) : Prop where
  le : p ≤ l.length
  lo : ∀ t x, t < p → l[t]? = some x → cmpK x.key k < 0
  hi : ∀ t x, p ≤ t → l[t]? = some x → 0 ≤ cmpK x.key k
attribute [local go_sem] Oper.semAt_some
set_option maxHeartbeats 3200000 in
theorem ebsf_any (v : Value) (l : List En) (k : Ky) (w : World) (h : IsEs w v l) (hlen : l.length ≤ 1000000) (hs : sortE l) :
    Calls Try.prog 46 #[v, .agg #[.string k.u, .int .i64 k.s, .int .i64 k.k], .func (.func 48) #[] #[]] w fun e w' => ∃ (p : Nat) (bb : Bool), e = .returned (.tuple #[.int .i64 p, .bool bb]) ∧ PosE l k p ∧ Below w.heap.size w w' := by
  have hsl := h
  obtain ⟨a, c, rfl, -, -, -⟩ := id hsl
  obtain ⟨-, hc, hm, hx⟩ := hsl.at
  have Hx := Lib.hid hx
  have Hs := Lib.hid hs
  clear hsl h hx hs
  obtain ⟨n, hn⟩ : ∃ n, n = l.length := ⟨_, rfl⟩
  rw [← hn] at hc Hx hlen ⊢
  have Hn := Lib.hid hn
  clear hn
  have hbW : Below w.heap.size w (w.alloc (.cells #[.string k.u, .int .i64 k.s, .int .i64 k.k] 28)) := (Below.refl _ _).alloc (Nat.le_refl _) _
  have hkb := blk_of_alloc w (.cells #[.string k.u, .int .i64 k.s, .int .i64 k.k] 28)
  have HbW := Lib.hid hbW
  have Hkb := Lib.hid hkb
  clear hbW hkb
  go_enter Try.func46, Try.ntmps46
  go_wp2_with fail
  generalize w.alloc (.cells #[.string k.u, .int .i64 k.s, .int .i64 k.k] 28) = W0 at *
  go_loopw [9, 10] (fun i j wr => ∃ p q : Nat, p ≤ q ∧ q ≤ n ∧ i = .int .i64 p ∧ j = .int .i64 q ∧ (∀ t x, t < p → l[t]? = some x → cmpK x.key k < 0) ∧ (∀ t x, q ≤ t → l[t]? = some x → 0 ≤ cmpK x.key k) ∧ Below w.heap.size w wr ∧ wr.heap[w.heap.size]? = some (.cells #[.string k.u, .int .i64 k.s, .int .i64 k.k] 28 (0, 0))) (fun i j _ => (intOf j).toNat - (intOf i).toNat)
  case atStart => exact ⟨0, n, Nat.zero_le _, Nat.le_refl _, rfl, rfl, fun t x ht => by omega, fun t x h1 h2 => by have := (List.getElem?_eq_some_iff.1 h2).1; have := Hn.out; omega, HbW.out, Hkb.out⟩
  case round =>
    obtain ⟨wo, rfl⟩ : ∃ wo : World, wo = wr := ⟨_, rfl⟩
    obtain ⟨p, q, hpq, hqn, rfl, rfl, hlo, hhi, hb, hk⟩ := hrel
    have Hlo := Lib.hid hlo
    have Hhi := Lib.hid hhi
    have Hk := Lib.hid hk
    clear hlo hhi
    have k0 := cell_regrown ((cell_of_blk hk 0).trans (show _ = some (.string k.u) from rfl))
    have k1 := cell_regrown ((cell_of_blk hk 1).trans (show _ = some (.int .i64 k.s) from rfl))
    have k2 := cell_regrown ((cell_of_blk hk 2).trans (show _ = some (.int .i64 k.k) from rfl))
    clear hk
    by_cases hlt : p < q
    · obtain ⟨m, hmid, hpm, hmq⟩ : ∃ m : Nat, ((p : Int) + (q : Int)) / 2 = (m : Int) ∧ p ≤ m ∧ m < q := ⟨(p + q) / 2, by omega, by omega, by omega⟩
      obtain ⟨b, off, rfl, hcell⟩ := Hx.out (by omega)
      obtain ⟨x, hxk⟩ : ∃ x, l[m]? = some x := ⟨_, List.getElem?_eq_getElem (by rw [← Hn.out]; omega)⟩
      obtain ⟨d0, d1, d2, d3⟩ := IsEs.row (w := wo) (fun i x hi j y hj => (hb.cell (block_lt_of_cell (hcell i x hi j y hj))).trans (hcell i x hi j y hj)) hxk
      have Hlo2 : Hid (cmpK x.key k < 0 → ∀ t y, t < m + 1 → l[t]? = some y → cmpK y.key k < 0) := by
        intro h t y ht hy
        by_cases e : t = m
        · subst e; rw [hxk] at hy; injection hy with hy; rw [← hy]; exact h
        · exact cmpK_le_lt (Hs.out t m y x (by omega) hy hxk) h
      have Hhi2 : Hid (0 ≤ cmpK x.key k → ∀ t y, m ≤ t → l[t]? = some y → 0 ≤ cmpK y.key k) := by
        intro h t y ht hy
        by_cases e : t = m
        · subst e; rw [hxk] at hy; injection hy with hy; rw [← hy]; exact h
        · have h1 := Hs.out m t x y (by omega) hxk hy
          by_cases q0 : cmpK y.key k < 0
          · have := cmpK_le_lt h1 q0; omega
          · omega
      clear hcell hxk
      obtain ⟨ka, val⟩ := x
      dsimp only at d0 d1 d2 d3 Hlo2 Hhi2
      have e0 := cell_regrown d0
      have e1 := cell_regrown d1
      have e2 := cell_regrown d2
      have e3 := cell_regrown d3
      have hcall : Hid (∀ (d : Nat) (os : Array Obj), Calls Try.prog 48 #[.agg #[.string ka.u, .int .i64 ka.s, .int .i64 ka.k, .string val], .agg #[.string k.u, .int .i64 k.s, .int .i64 k.k]] (grow (redrawn wo d) os) fun e w'' => e = .returned (.int .i64 (cmpK ka k)) ∧ ∃ p : Regrown, w'' = grow (redrawn wo p.d) p.os) := fun d os => Calls.regrown_of (pk_any ka k val _)
      have Hb := Lib.hid hb
      have hmn : m < n := by omega
      clear d0 d1 d2 d3 hb
      generalize cmpK ka k = cv at *
      by_cases hxK : cv < 0
      · have Hn1 := Lib.hid (Hlo2.out hxK)
        go_wp2_with fail
        refine wp_region_quiet_below (by kernel_rfl) (by kernel_rfl) ?_
        repeat (go_big_quiet_step (first | with_reducible exact hcall.out _ _))
        refine wpQuiet_nil ?_
        intro _ hw'
        obtain ⟨⟨dq, osq⟩, hw''⟩ := hw'
        subst hw''
        have Hbq := Lib.hid (Hb.out.trans ((below_regrown wo dq osq).mono Hb.out.size))
        have Hkq := Lib.hid (blk_bels (below_regrown wo dq osq) Hk.out)
        clear Hk Hb
        go_wp2
        go_roundw
        case rel => exact ⟨m + 1, q, by omega, by omega, by go_num, rfl, Hn1.out, Hhi.out, Hbq.out, Hkq.out⟩
        case measure => simp [intOf]; omega
      · have Hn1 := Lib.hid (Hhi2.out (by omega))
        go_wp2_with fail
        refine wp_region_quiet_below (by kernel_rfl) (by kernel_rfl) ?_
        repeat (go_big_quiet_step (first | with_reducible exact hcall.out _ _))
        refine wpQuiet_nil ?_
        intro _ hw'
        obtain ⟨⟨dq, osq⟩, hw''⟩ := hw'
        subst hw''
        have Hbq := Lib.hid (Hb.out.trans ((below_regrown wo dq osq).mono Hb.out.size))
        have Hkq := Lib.hid (blk_bels (below_regrown wo dq osq) Hk.out)
        clear Hk Hb
        go_wp2
        go_roundw
        case rel => exact ⟨p, m, by omega, by omega, rfl, rfl, Hlo.out, Hn1.out, Hbq.out, Hkq.out⟩
        case measure => simp [intOf]; omega
    · obtain rfl : p = q := by omega
      have Hins : Hid (PosE l k p) := Lib.hid ⟨by rw [← Hn.out]; exact hqn, Hlo.out, Hhi.out⟩
      by_cases hpn : p < n
      · obtain ⟨b, off, rfl, hcell⟩ := Hx.out (by omega)
        obtain ⟨x, hxk⟩ : ∃ x, l[p]? = some x := ⟨_, List.getElem?_eq_getElem (by rw [← Hn.out]; omega)⟩
        obtain ⟨d0, d1, d2, d3⟩ := IsEs.row (w := wo) (fun i x hi j y hj => (hb.cell (block_lt_of_cell (hcell i x hi j y hj))).trans (hcell i x hi j y hj)) hxk
        clear hcell hxk
        obtain ⟨ka, val⟩ := x
        dsimp only at d0 d1 d2 d3
        have e0 := cell_regrown d0
        have e1 := cell_regrown d1
        have e2 := cell_regrown d2
        have e3 := cell_regrown d3
        have hcall : Hid (∀ (d : Nat) (os : Array Obj), Calls Try.prog 48 #[.agg #[.string ka.u, .int .i64 ka.s, .int .i64 ka.k, .string val], .agg #[.string k.u, .int .i64 k.s, .int .i64 k.k]] (grow (redrawn wo d) os) fun e w'' => e = .returned (.int .i64 (cmpK ka k)) ∧ ∃ p : Regrown, w'' = grow (redrawn wo p.d) p.os) := fun d os => Calls.regrown_of (pk_any ka k val _)
        have Hb := Lib.hid hb
        clear d0 d1 d2 d3 hb
        generalize cmpK ka k = cv at *
        go_wp2_with fail
        refine wp_region_quiet_below (by kernel_rfl) (by kernel_rfl) ?_
        repeat (go_big_quiet_step (first | with_reducible exact hcall.out _ _))
        refine wpQuiet_nil ?_
        intro _ hw'
        obtain ⟨⟨dq, osq⟩, hw''⟩ := hw'
        subst hw''
        have Hbq := Lib.hid (Hb.out.trans ((below_regrown wo dq osq).mono Hb.out.size))
        have Hkq := Lib.hid (blk_bels (below_regrown wo dq osq) Hk.out)
        go_wp2
        go_ret2
        exact ⟨p, _, rfl, Hins.out, Hbq.out⟩
      · obtain rfl : n = p := by omega
        have Hb := Lib.hid hb
        clear hb
        have hundef : undef = Value.tuple #[] := rfl
        go_wp2_with fail
        refine wp_region_quiet_below (by kernel_rfl) (by kernel_rfl) ?_
        repeat (go_big_quiet_step (fail))
        refine wpQuiet_nil ?_
        intro _ hw'
        obtain ⟨⟨dq, osq⟩, hw''⟩ := hw'
        subst hw''
        have Hbq := Lib.hid (Hb.out.trans ((below_regrown wo dq osq).mono Hb.out.size))
        have Hkq := Lib.hid (blk_bels (below_regrown wo dq osq) Hk.out)
        go_wp2
        go_ret2
        exact ⟨n, _, rfl, Hins.out, Hbq.out⟩
theorem kyInfoE : (Try.prog.info? 28).map (·.size) = some 3 := by kernel_rfl
theorem enInfoE : (Try.prog.info? 30).map (·.size) = some 4 := by kernel_rfl
theorem seek_any (u : ByteArray) (s : Int) (w : World) : Calls Try.prog 47 #[.string u, .int .i64 s] w fun e w' => e = .returned (.agg #[.string u, .int .i64 s, .int .i64 3]) ∧ Below w.heap.size w w' := by
  go_enter Try.func47, Try.ntmps47
  go_wp2_with fail
  refine bodyPost_ret (results_cell_row Try.results47 _ _ w.heap.size 28 _ (0, 0) _ rfl (blk_of_alloc w _) Try.underlying28 rfl kyInfoE) rfl ?_
  exact ⟨rfl, (Below.refl _ _).alloc (Nat.le_refl _) _⟩
/-- what an ordered list has of a user at a number -/
def pickE (l : List En) (u : ByteArray) (s : Int) : Option En := l.find? fun x => decide (x.key.u = u) && decide (x.key.s ≤ s)
theorem pos_before {x : En} {u : ByteArray} {s : Int} (h : cmpK x.key ⟨u, s, 3⟩ < 0) : (decide (x.key.u = u) && decide (x.key.s ≤ s)) = true → 3 < x.key.k := by
  intro hq
  simp only [Bool.and_eq_true, decide_eq_true_eq] at hq
  rcases (cmpK_lt _ _).1 h with h1 | ⟨-, h2⟩
  · dsimp only at h1
    rw [hq.1, cmpB_self] at h1; omega
  · dsimp only at h2
    omega
theorem pick_pos {l : List En} {u : ByteArray} {s : Int} {p : Nat} (hp : PosE l ⟨u, s, 3⟩ p) (hs : sortE l) (hk : ∀ x ∈ l, x.key.k ≤ 3) : pickE l u s = match l[p]? with | some x => if x.key.u = u then some x else none | none => none := by
  unfold pickE
  have hlo : ∀ t x, t < p → l[t]? = some x → (decide (x.key.u = u) && decide (x.key.s ≤ s)) = false := fun t x ht hx => by
    cases hq : decide (x.key.u = u) && decide (x.key.s ≤ s) with
    | false => rfl
    | true =>
      have := pos_before (hp.lo t x ht hx) hq
      have := hk x (List.mem_of_getElem? hx)
      omega
  have key : ∀ x, l[p]? = some x → x.key.u = u → x.key.s ≤ s := fun x hx hu => by
    by_cases h : x.key.s ≤ s
    · exact h
    · have h1 := hp.hi p x (Nat.le_refl _) hx
      have : cmpK x.key ⟨u, s, 3⟩ < 0 := (cmpK_lt _ _).2 (.inr ⟨hu, .inl (by dsimp only; omega)⟩)
      omega
  have split : l = l.take p ++ l.drop p := (List.take_append_drop p l).symm
  have h1 : (l.take p).find? (fun x => decide (x.key.u = u) && decide (x.key.s ≤ s)) = none := by
    rw [List.find?_eq_none]
    intro x hx
    obtain ⟨t, ht⟩ := List.mem_iff_getElem?.1 hx
    rw [List.getElem?_take] at ht
    split at ht
    · rename_i htp
      rw [hlo t x htp ht]; simp
    · cases ht
  conv => lhs; rw [split]
  rw [List.find?_append, h1, Option.none_or]
  cases hx : l[p]? with
  | none =>
    have : l.length ≤ p := List.getElem?_eq_none_iff.1 hx
    rw [List.drop_of_length_le this]; rfl
  | some x =>
    have hlt := (List.getElem?_eq_some_iff.1 hx).1
    have hd : l.drop p = x :: l.drop (p + 1) := by rw [List.drop_eq_getElem_cons hlt, (List.getElem?_eq_some_iff.1 hx).2]
    rw [hd, List.find?_cons]
    by_cases hu : x.key.u = u
    · rw [decide_eq_true hu, decide_eq_true (key x hx hu)]
      simp [hu]
    · rw [decide_eq_false hu, Bool.false_and]
      simp only [hu, if_false]
      rw [List.find?_eq_none]
      intro y hy
      obtain ⟨t, ht⟩ := List.mem_iff_getElem?.1 hy
      rw [List.getElem?_drop] at ht
      have h2 := hs p (p + 1 + t) x y (by omega) hx ht
      have h3 := hp.hi p x (Nat.le_refl _) hx
      intro hq
      simp only [Bool.and_eq_true, decide_eq_true_eq] at hq
      have h4 : cmpB x.key.u y.key.u ≤ 0 := by
        rcases Int.lt_or_eq_of_le h2 with h | h
        · exact cmpK_le _ _ h
        · rw [cmpK_zero h, cmpB_self]; omega
      rw [hq.1] at h4
      have h5 : cmpB x.key.u u ≠ 0 := fun e => hu ((cmpB_zero _ _).1 e)
      have : cmpK x.key ⟨u, s, 3⟩ < 0 := (cmpK_lt _ _).2 (.inl (by dsimp only; omega))
      omega
theorem results_row_slotE {P : Program} {fn : Func} {p q : Tmp} {ty : TypeId} (h : fn.results = #[.cell p ty, .tmp q]) (tmps : Array Value) (w : World) (g : Nat) (t : TypeId) (cs : Array Value) (fr : Nat × Nat) (d : TypeDesc) (v : Value)
    (hp : tmps.getD p undef = .pointer (some ⟨g, 0, none⟩)) (hq : tmps.getD q undef = v) (hg : w.heap[g]? = some (.cells cs t fr))
    (hu : P.underlying ty = some d) (hd : (match d with | .struct _ | .array _ _ => true | _ => false) = true) (hi : (P.info? ty).map (·.size) = some cs.size) :
    (results fn tmps).run P w = .ok (.tuple #[.agg cs, v]) w := by
  have hp' : tmps[p]?.getD undef = .pointer (some ⟨g, 0, none⟩) := by simpa using hp
  have hq' : tmps[q]?.getD undef = v := by simpa using hq
  simp [results, h, hp', hq', asAddr, run_loadVar_row w g t ty cs fr d hg hu hd hi]
theorem str_noE {a b : ByteArray} (h : a ≠ b) : (a.toList == b.toList) = false := by
  rw [beq_cmpB]
  exact decide_eq_false (fun q => h ((cmpB_zero _ _).1 q))
def enV (x : En) : Value := .agg #[.string x.key.u, .int .i64 x.key.s, .int .i64 x.key.k, .string x.val]
attribute [local go_sem] Oper.semAt_some
set_option maxHeartbeats 3200000 in
theorem pick_any (v : Value) (l : List En) (u : ByteArray) (s : Int) (w : World) (h : IsEs w v l) (hlen : l.length ≤ 100000) (hs : sortE l) (hk : ∀ x ∈ l, x.key.k ≤ 3) :
    Calls Try.prog 24 #[v, .string u, .int .i64 s] w fun e w' => e = .returned (.tuple #[enV ((pickE l u s).getD En.nil), .bool (pickE l u s).isSome]) ∧ Below w.heap.size w w' := by
  have HZ := Lib.hid (blk_of_alloc w (.cells #[.string ⟨#[]⟩, .int .i64 0, .int .i64 0, .string ⟨#[]⟩] 30))
  have Hb1 := Lib.hid ((Below.refl w.heap.size w).alloc (Nat.le_refl _) (.cells #[.string ⟨#[]⟩, .int .i64 0, .int .i64 0, .string ⟨#[]⟩] 30))
  obtain ⟨a, c, rfl, -, -, -⟩ := id h
  obtain ⟨-, hc, hm, hx⟩ := h.at
  have H := Lib.hid h
  have Hx := Lib.hid hx
  have Hs := Lib.hid hs
  have Hk := Lib.hid hk
  obtain ⟨n, hn⟩ : ∃ n, n = l.length := ⟨_, rfl⟩
  rw [← hn] at hc H Hx hlen ⊢
  have Hn := Lib.hid hn
  obtain ⟨pb, hpb⟩ : ∃ o, o = w.heap.size := ⟨_, rfl⟩
  have Hpb := Lib.hid hpb
  rw [← hpb] at HZ
  clear h hx hs hk hn hpb
  go_enter Try.func24, Try.ntmps24
  go_upto_region 1 with fail
  rw [← Hpb.out]
  generalize w.alloc (.cells #[.string ⟨#[]⟩, .int .i64 0, .int .i64 0, .string ⟨#[]⟩] 30) = W1 at *
  go_wp2_with fail
  refine (seek_any u s W1).mono ?_
  rintro e w2 ⟨rfl, hb2⟩
  have HZ2 := Lib.hid (blk_bels hb2 HZ.out)
  have Hb2 := Lib.hid (Hb1.out.trans (hb2.mono Hb1.out.size))
  have HB := Lib.hid (ebsf_any (.slice a n c) l ⟨u, s, 3⟩ w2 (H.out.below Hb2.out) (by rw [← Hn.out]; omega) Hs.out)
  clear hb2 HZ Hb1
  go_wp2_with fail
  refine HB.out.mono ?_
  rintro e w3 ⟨p, bb, rfl, hpos, hb3⟩
  have HZ3 := Lib.hid (blk_bels hb3 HZ2.out)
  have Hb3 := Lib.hid (Hb2.out.trans (hb3.mono Hb2.out.size))
  have HP := Lib.hid (pick_pos hpos Hs.out Hk.out)
  have hple := hpos.le
  rw [← Hn.out] at hple
  clear hb3 hpos HZ2 Hb2 HB Hs Hk
  have hpc := fun j => cell_of_blk HZ3.out j
  have hpz := fun j => frozen_of_blk HZ3.out j
  by_cases hpn : p < n
  · obtain ⟨b, off, rfl, hcell⟩ := Hx.out (by omega)
    obtain ⟨x, hxk⟩ : ∃ x, l[p]? = some x := ⟨_, List.getElem?_eq_getElem (by rw [← Hn.out]; exact hpn)⟩
    obtain ⟨d0, d1, d2, d3⟩ := IsEs.row (w := w3) (fun i x hi j y hj => (Hb3.out.cell (block_lt_of_cell (hcell i x hi j y hj))).trans (hcell i x hi j y hj)) hxk
    have hP := HP.out
    rw [hxk] at hP
    have hP2 : pickE l u s = if x.key.u = u then some x else none := hP
    have hpn2 : (p : Int) < (n : Int) := by omega
    have hp0 : (0 : Int) ≤ (p : Int) := by omega
    obtain ⟨⟨xu, xs, xk⟩, val⟩ := x
    dsimp only at d0 d1 d2 d3 hP2
    clear hcell hxk HP hP
    by_cases hue : xu = u
    · subst hue
      rw [if_pos rfl] at hP2
      have HP2 := Lib.hid hP2
      have HN : Hid (((((w3.setCell ⟨pb, 0, none⟩ (.string xu)).setCell ⟨pb, 1, none⟩ (.int .i64 xs)).setCell ⟨pb, 2, none⟩ (.int .i64 xk)).setCell ⟨pb, 3, none⟩ (.string val)).heap[pb]? = some (.cells #[.string xu, .int .i64 xs, .int .i64 xk, .string val] 30 (0, 0)) ∧ Below w.heap.size w ((((w3.setCell ⟨pb, 0, none⟩ (.string xu)).setCell ⟨pb, 1, none⟩ (.int .i64 xs)).setCell ⟨pb, 2, none⟩ (.int .i64 xk)).setCell ⟨pb, 3, none⟩ (.string val))) :=
        Lib.hid ⟨(blk_set (blk_set (blk_set (blk_set HZ3.out)))).trans rfl, (((Hb3.out.setCell (p := ⟨pb, 0, none⟩) (Nat.le_of_eq Hpb.out.symm) _).setCell (p := ⟨pb, 1, none⟩) (Nat.le_of_eq Hpb.out.symm) _).setCell (p := ⟨pb, 2, none⟩) (Nat.le_of_eq Hpb.out.symm) _).setCell (p := ⟨pb, 3, none⟩) (Nat.le_of_eq Hpb.out.symm) _⟩
      clear hP2
      go_wp2_with fail
      refine bodyPost_ret (results_row_slotE Try.results24 _ _ pb 30 _ (0, 0) _ _ rfl rfl HN.out.1 Try.underlying30 rfl enInfoE) rfl ?_
      exact ⟨by rw [HP2.out]; rfl, HN.out.2⟩
    · have hq := str_noE hue
      rw [if_neg hue] at hP2
      have HP2 := Lib.hid hP2
      have HN : Hid (((((w3.setCell ⟨pb, 0, none⟩ (.string ⟨#[]⟩)).setCell ⟨pb, 1, none⟩ (.int .i64 0)).setCell ⟨pb, 2, none⟩ (.int .i64 0)).setCell ⟨pb, 3, none⟩ (.string ⟨#[]⟩)).heap[pb]? = some (.cells #[.string ⟨#[]⟩, .int .i64 0, .int .i64 0, .string ⟨#[]⟩] 30 (0, 0)) ∧ Below w.heap.size w ((((w3.setCell ⟨pb, 0, none⟩ (.string ⟨#[]⟩)).setCell ⟨pb, 1, none⟩ (.int .i64 0)).setCell ⟨pb, 2, none⟩ (.int .i64 0)).setCell ⟨pb, 3, none⟩ (.string ⟨#[]⟩))) :=
        Lib.hid ⟨(blk_set (blk_set (blk_set (blk_set HZ3.out)))).trans rfl, (((Hb3.out.setCell (p := ⟨pb, 0, none⟩) (Nat.le_of_eq Hpb.out.symm) _).setCell (p := ⟨pb, 1, none⟩) (Nat.le_of_eq Hpb.out.symm) _).setCell (p := ⟨pb, 2, none⟩) (Nat.le_of_eq Hpb.out.symm) _).setCell (p := ⟨pb, 3, none⟩) (Nat.le_of_eq Hpb.out.symm) _⟩
      clear hP2
      go_wp2_with fail
      refine bodyPost_ret (results_row_slotE Try.results24 _ _ pb 30 _ (0, 0) _ _ rfl rfl HN.out.1 Try.underlying30 rfl enInfoE) rfl ?_
      exact ⟨by rw [HP2.out]; rfl, HN.out.2⟩
  · obtain rfl : n = p := by omega
    have hP2 : pickE l u s = none := by
      rw [HP.out, List.getElem?_eq_none (by rw [← Hn.out]; exact Nat.le_refl _)]
    have HP2 := Lib.hid hP2
    have HN : Hid (((((w3.setCell ⟨pb, 0, none⟩ (.string ⟨#[]⟩)).setCell ⟨pb, 1, none⟩ (.int .i64 0)).setCell ⟨pb, 2, none⟩ (.int .i64 0)).setCell ⟨pb, 3, none⟩ (.string ⟨#[]⟩)).heap[pb]? = some (.cells #[.string ⟨#[]⟩, .int .i64 0, .int .i64 0, .string ⟨#[]⟩] 30 (0, 0)) ∧ Below w.heap.size w ((((w3.setCell ⟨pb, 0, none⟩ (.string ⟨#[]⟩)).setCell ⟨pb, 1, none⟩ (.int .i64 0)).setCell ⟨pb, 2, none⟩ (.int .i64 0)).setCell ⟨pb, 3, none⟩ (.string ⟨#[]⟩))) :=
      Lib.hid ⟨(blk_set (blk_set (blk_set (blk_set HZ3.out)))).trans rfl, (((Hb3.out.setCell (p := ⟨pb, 0, none⟩) (Nat.le_of_eq Hpb.out.symm) _).setCell (p := ⟨pb, 1, none⟩) (Nat.le_of_eq Hpb.out.symm) _).setCell (p := ⟨pb, 2, none⟩) (Nat.le_of_eq Hpb.out.symm) _).setCell (p := ⟨pb, 3, none⟩) (Nat.le_of_eq Hpb.out.symm) _⟩
    clear hP2 HP
    go_wp2_with fail
    refine bodyPost_ret (results_row_slotE Try.results24 _ _ pb 30 _ (0, 0) _ _ rfl rfl HN.out.1 Try.underlying30 rfl enInfoE) rfl ?_
    exact ⟨by rw [HP2.out]; rfl, HN.out.2⟩
end Go.Proofs.Ytkjfjcigmmooiaa.Tithe
