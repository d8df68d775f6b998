/- slices.IndexFunc, slices.BinarySearchFunc over metas, with the closures of Apply: walked. -/
import Derived.Test.YthjjelomlgmllaaLevMem
namespace Go.Proofs.Ythjjelomlgmllaa.Tithe
open Go.RowKit Go.Sort Go.Shelf
set_option linter.unusedVariables false
set_option linter.unusedSimpArgs false
set_option maxRecDepth 100000
theorem idx_at' {α : Type} {l : List α} {p : α → Bool} {k : Nat} {x : α} (h : ∀ j y, j < k → l[j]? = some y → p y = false) (hx : l[k]? = some x) (hp : p x = true) : l.findIdx? p = some k := by
  obtain ⟨hk, he⟩ := List.getElem?_eq_some_iff.1 hx
  rw [List.findIdx?_eq_some_iff_getElem]
  refine ⟨hk, by rw [he]; exact hp, fun j hj => ?_⟩
  rw [h j _ hj (List.getElem?_eq_getElem (by omega))]; simp
theorem idx_none' {α : Type} {l : List α} {p : α → Bool} (h : ∀ j y, j < l.length → l[j]? = some y → p y = false) : l.findIdx? p = none := by
  rw [List.findIdx?_eq_none_iff]
  intro x hx
  obtain ⟨j, hj, rfl⟩ := List.mem_iff_getElem.1 hx
  exact h j _ hj (List.getElem?_eq_getElem hj)
theorem ap1_any (z n : Int) (a b : Ky) (ra : Option Addr) (rn rc zb : Nat) (zz : Int) (W : World) (hc : W.cell? ⟨zb, 0, none⟩ = some (.int .i64 zz)) :
    Calls Try.prog 52 #[.agg #[.int .i64 z, .int .i64 n, .string a.u, .int .i64 a.s, .int .i64 a.k, .string b.u, .int .i64 b.s, .int .i64 b.k, .slice ra rn rc], .pointer (some ⟨zb, 0, none⟩)] W fun e W' => e = .returned (.bool (decide (z = zz))) ∧ Below W.heap.size W W' := by
  have hx : ∀ o, (W.alloc o).cell? ⟨zb, 0, none⟩ = some (.int .i64 zz) := fun o => grow_alloc hc o
  clear hc
  go_enter Try.func52, Try.ntmps52
  go_wp2
  go_ret
  exact ⟨congrArg (fun q => Ending.returned (.bool q)) (by rw [Bool.eq_iff_iff]; simp), (Below.refl _ _).alloc (Nat.le_refl _) _⟩
def zAt (z : Int) (r : Mr) : Bool := decide (r.1.z = z)
set_option maxHeartbeats 1600000 in
theorem mindex_any (v : Value) (l : List Mr) (zb : Nat) (z : Int) (i : Nat) (w : World) (h : IsMr w v l) (hc : w.cell? ⟨zb, 0, none⟩ = some (.int .i64 z)) (hi : l.findIdx? (zAt z) = some i) :
    Calls Try.prog 51 #[v, .func (.func 52) #[] #[.pointer (some ⟨zb, 0, none⟩)]] w fun e w' => e = .returned (.int .i64 (i : Nat)) ∧ Below w.heap.size w w' := by
  obtain ⟨hsl, hrr⟩ := h
  obtain ⟨a, c, rfl, -, -, -⟩ := id hsl
  obtain ⟨-, hcc, hm, hx⟩ := hsl.at
  have hzb := block_lt_of_cell hc
  have Hx := Lib.hid hx
  have Hc := Lib.hid hc
  have Hi := Lib.hid hi
  have Hrr := Lib.hid hrr
  clear hsl hx hc hi hrr
  obtain ⟨n, hn⟩ : ∃ n, n = l.length := ⟨_, rfl⟩
  rw [← hn] at Hx hcc ⊢
  have Hn := Lib.hid hn
  clear hn
  go_enter Try.func51, Try.ntmps51
  go_wp2
  go_loopw [8] (fun iv wr => ∃ k : Nat, k ≤ n ∧ iv = .int .i64 k ∧ (∀ j y, j < k → l[j]? = some y → zAt z y = false) ∧ Below w.heap.size w wr) (fun iv _ => n - (intOf iv).toNat)
  case atStart => exact ⟨0, Nat.zero_le _, rfl, by omega, Below.refl _ _⟩
  case round =>
    obtain ⟨wo, rfl⟩ : ∃ wo : World, wo = wr := ⟨_, rfl⟩
    obtain ⟨k, hk, rfl, hr, hb⟩ := hrel
    have Hr := Lib.hid hr
    have Hb := Lib.hid hb
    clear hr hb
    by_cases hkn : k < n
    · obtain ⟨b, off, rfl, hcell⟩ := Hx.out (by omega)
      obtain ⟨x, hxk⟩ : ∃ x, l[k]? = some x := ⟨_, List.getElem?_eq_getElem (by rw [← Hn.out]; exact hkn)⟩
      obtain ⟨d0, d1, d2, d3, d4, d5, d6, d7, d8⟩ := IsMr.row (w := wo) (fun i x hi j y hj => (Hb.out.cell (block_lt_of_cell (hcell i x hi j y hj))).trans (hcell i x hi j y hj)) hxk
      obtain ⟨ra, rc, hrv, -, -, -⟩ := Hrr.out x (List.mem_of_getElem? hxk)
      have Hxk := Lib.hid hxk
      clear hxk hcell
      obtain ⟨⟨mz, mn, ka, kb, refs⟩, vr⟩ := x
      dsimp only at d0 d1 d2 d3 d4 d5 d6 d7 d8 hrv
      generalize refs.length = rn at *
      subst hrv
      have hpk := ap1_any mz mn ka kb ra rn rc zb z wo ((Hb.out.cell hzb).trans Hc.out)
      by_cases hpx : mz = z
      · rw [decide_eq_true hpx] at hpk
        have Hpk := Lib.hid hpk
        have Hidx : Hid (k = i) := by
          have := idx_at' Hr.out Hxk.out (show zAt z _ = true from decide_eq_true hpx)
          rw [Hi.out] at this
          injection this with this
          exact this.symm
        clear hpk hpx
        go_wp2_with fail
        refine Hpk.out.mono ?_
        rintro e w2 ⟨rfl, hb2⟩
        go_wp2
        go_ret
        exact ⟨by rw [Hidx.out]; rfl, Hb.out.trans (hb2.mono Hb.out.size)⟩
      · rw [decide_eq_false hpx] at hpk
        have Hpk := Lib.hid hpk
        have Hpx := Lib.hid hpx
        clear hpk hpx
        go_wp2_with fail
        refine Hpk.out.mono ?_
        rintro e w2 ⟨rfl, hb2⟩
        have Hb2 := Lib.hid (Hb.out.trans (hb2.mono Hb.out.size))
        clear hb2
        go_wp2
        go_roundw
        case rel =>
          refine ⟨k + 1, by omega, by go_num, fun j y hj hy => ?_, Hb2.out⟩
          by_cases e : j = k
          · subst e
            have := Hxk.out.symm.trans hy
            injection this with this
            rw [← this]; exact decide_eq_false Hpx.out
          · exact Hr.out j y (by omega) hy
        case measure => simp [intOf]; omega
    · obtain rfl : k = n := by omega
      exfalso
      have := idx_none' (l := l) (p := zAt z) (by rw [← Hn.out]; exact Hr.out)
      rw [Hi.out] at this
      cases this
/-! ### the binary search -/
theorem ap2_any (z n : Int) (a b k : Ky) (ra : Option Addr) (rn rc : Nat) (W : World) :
    Calls Try.prog 55 #[.agg #[.int .i64 z, .int .i64 n, .string a.u, .int .i64 a.s, .int .i64 a.k, .string b.u, .int .i64 b.s, .int .i64 b.k, .slice ra rn rc], .agg #[.string k.u, .int .i64 k.s, .int .i64 k.k]] W fun e W' => e = .returned (.int .i64 (cmpK a k)) ∧ Below W.heap.size W W' := by
  have hb : ∀ o o', Below W.heap.size W ((W.alloc o).alloc o') := fun o o' => ((Below.refl _ _).alloc (Nat.le_refl _) _).alloc (by simp) _
  have Hb := Lib.hid hb
  have hcmp := fun V => kcmp_any a k V
  unfold Ky.v at hcmp
  have Hcmp := Lib.hid hcmp
  clear hb hcmp
  go_enter Try.func55, Try.ntmps55
  go_wp2_with fail
  refine (Hcmp.out _).mono ?_
  rintro e w1 ⟨rfl, hb1⟩
  have HB := Lib.hid ((Hb.out _ _).trans (hb1.mono (Hb.out _ _).size))
  clear hb1
  go_wp2
  go_ret
  exact ⟨rfl, HB.out⟩
def sortS (l : List Mr) : Prop := ∀ (i j : Nat) (x y : Mr), i < j → l[i]? = some x → l[j]? = some y → cmpK x.1.a y.1.a ≤ 0
/-- where a table of a smallest key is to be put -/
def insN (l : List Mr) (k : Ky) : Nat := match l.findIdx? (fun r => decide (0 ≤ cmpK r.1.a k)) with | some i => i | none => l.length
theorem insN_eq {l : List Mr} {k : Ky} {p : Nat} (hp : p ≤ l.length) (h1 : ∀ t x, t < p → l[t]? = some x → cmpK x.1.a k < 0) (h2 : ∀ t x, p ≤ t → l[t]? = some x → 0 ≤ cmpK x.1.a k) : insN l k = p := by
  unfold insN
  by_cases e : p = l.length
  · rw [idx_none' (fun j y hj hy => by have := h1 j y (by omega) hy; simp; omega)]; exact e.symm
  · have hx := List.getElem?_eq_getElem (l := l) (i := p) (by omega)
    rw [idx_at' (fun j y hj hy => by have := h1 j y hj hy; simp; omega) hx (by have := h2 p _ (Nat.le_refl _) hx; simpa using this)]
set_option maxHeartbeats 3200000 in
theorem mbsf_any (v : Value) (l : List Mr) (k : Ky) (w : World) (h : IsMr w v l) (hlen : l.length ≤ 1000000) (hs : sortS l) :
    Calls Try.prog 54 #[v, .agg #[.string k.u, .int .i64 k.s, .int .i64 k.k], .func (.func 55) #[] #[]] w fun e w' => ∃ bb : Bool, e = .returned (.tuple #[.int .i64 (insN l k : Nat), .bool bb]) ∧ Below w.heap.size w w' := by
  obtain ⟨hsl, hrr⟩ := h
  obtain ⟨a, c, rfl, -, -, -⟩ := id hsl
  obtain ⟨-, hc, hm, hx⟩ := hsl.at
  have Hx := Lib.hid hx
  have Hs := Lib.hid hs
  have Hrr := Lib.hid hrr
  clear hsl hx hs hrr
  obtain ⟨n, hn⟩ : ∃ n, n = l.length := ⟨_, rfl⟩
  rw [← hn] at hc Hx hlen ⊢
  have Hn := Lib.hid hn
  clear hn
  have hbW : Below w.heap.size w (w.alloc (.cells #[.string k.u, .int .i64 k.s, .int .i64 k.k] 75)) := (Below.refl _ _).alloc (Nat.le_refl _) _
  have hkb := blk_of_alloc w (.cells #[.string k.u, .int .i64 k.s, .int .i64 k.k] 75)
  have HbW := Lib.hid hbW
  have Hkb := Lib.hid hkb
  clear hbW hkb
  go_enter Try.func54, Try.ntmps54
  go_wp2_with fail
  generalize w.alloc (.cells #[.string k.u, .int .i64 k.s, .int .i64 k.k] 75) = W0 at *
  go_loopw [9, 10] (fun i j wr => ∃ p q : Nat, p ≤ q ∧ q ≤ n ∧ i = .int .i64 p ∧ j = .int .i64 q ∧ (∀ t x, t < p → l[t]? = some x → cmpK x.1.a k < 0) ∧ (∀ t x, q ≤ t → l[t]? = some x → 0 ≤ cmpK x.1.a k) ∧ Below w.heap.size w wr ∧ wr.heap[w.heap.size]? = some (.cells #[.string k.u, .int .i64 k.s, .int .i64 k.k] 75 (0, 0))) (fun i j _ => (intOf j).toNat - (intOf i).toNat)
  case atStart => exact ⟨0, n, Nat.zero_le _, Nat.le_refl _, rfl, rfl, fun t x ht => by omega, fun t x h1 h2 => by have := (List.getElem?_eq_some_iff.1 h2).1; have := Hn.out; omega, HbW.out, Hkb.out⟩
  case round =>
    obtain ⟨wo, rfl⟩ : ∃ wo : World, wo = wr := ⟨_, rfl⟩
    obtain ⟨p, q, hpq, hqn, rfl, rfl, hlo, hhi, hb, hk⟩ := hrel
    have Hlo := Lib.hid hlo
    have Hhi := Lib.hid hhi
    have Hk := Lib.hid hk
    clear hlo hhi
    have k0 := cell_regrown ((cell_of_blk hk 0).trans (show _ = some (.string k.u) from rfl))
    have k1 := cell_regrown ((cell_of_blk hk 1).trans (show _ = some (.int .i64 k.s) from rfl))
    have k2 := cell_regrown ((cell_of_blk hk 2).trans (show _ = some (.int .i64 k.k) from rfl))
    clear hk
    by_cases hlt : p < q
    · obtain ⟨m, hmid, hpm, hmq⟩ : ∃ m : Nat, ((p : Int) + (q : Int)) / 2 = (m : Int) ∧ p ≤ m ∧ m < q := ⟨(p + q) / 2, by omega, by omega, by omega⟩
      obtain ⟨b, off, rfl, hcell⟩ := Hx.out (by omega)
      obtain ⟨x, hxk⟩ : ∃ x, l[m]? = some x := ⟨_, List.getElem?_eq_getElem (by rw [← Hn.out]; omega)⟩
      obtain ⟨d0, d1, d2, d3, d4, d5, d6, d7, d8⟩ := IsMr.row (w := wo) (fun i x hi j y hj => (hb.cell (block_lt_of_cell (hcell i x hi j y hj))).trans (hcell i x hi j y hj)) hxk
      obtain ⟨ra, rc, hrv, -, -, -⟩ := Hrr.out x (List.mem_of_getElem? hxk)
      have Hlo2 : Hid (cmpK x.1.a k < 0 → ∀ t y, t < m + 1 → l[t]? = some y → cmpK y.1.a k < 0) := by
        intro h t y ht hy
        by_cases e : t = m
        · subst e; rw [hxk] at hy; injection hy with hy; rw [← hy]; exact h
        · exact cmpK_le_lt (Hs.out t m y x (by omega) hy hxk) h
      have Hhi2 : Hid (0 ≤ cmpK x.1.a k → ∀ t y, m ≤ t → l[t]? = some y → 0 ≤ cmpK y.1.a k) := by
        intro h t y ht hy
        by_cases e : t = m
        · subst e; rw [hxk] at hy; injection hy with hy; rw [← hy]; exact h
        · have h1 := Hs.out m t x y (by omega) hxk hy
          by_cases q0 : cmpK y.1.a k < 0
          · have := cmpK_le_lt h1 q0; omega
          · omega
      clear hcell hxk
      obtain ⟨⟨mz, mn, ka, kb, refs⟩, vr⟩ := x
      dsimp only at d0 d1 d2 d3 d4 d5 d6 d7 d8 hrv Hlo2 Hhi2
      generalize refs.length = rn at *
      subst hrv
      have e0 := cell_regrown d0
      have e1 := cell_regrown d1
      have e2 := cell_regrown d2
      have e3 := cell_regrown d3
      have e4 := cell_regrown d4
      have e5 := cell_regrown d5
      have e6 := cell_regrown d6
      have e7 := cell_regrown d7
      have e8 := cell_regrown d8
      have hcall : Hid (∀ (d : Nat) (os : Array Obj), Calls Try.prog 55 #[.agg #[.int .i64 mz, .int .i64 mn, .string ka.u, .int .i64 ka.s, .int .i64 ka.k, .string kb.u, .int .i64 kb.s, .int .i64 kb.k, .slice ra rn rc], .agg #[.string k.u, .int .i64 k.s, .int .i64 k.k]] (grow (redrawn wo d) os) fun e w'' => e = .returned (.int .i64 (cmpK ka k)) ∧ ∃ p : Regrown, w'' = grow (redrawn wo p.d) p.os) := fun d os => Calls.regrown_of (ap2_any mz mn ka kb k ra rn rc _)
      have Hb := Lib.hid hb
      have hmn : m < n := by omega
      clear d0 d1 d2 d3 d4 d5 d6 d7 d8 hb
      generalize cmpK ka k = cv at *
      by_cases hxK : cv < 0
      · have Hn1 := Lib.hid (Hlo2.out hxK)
        go_wp2_with fail
        refine wp_region_quiet_below (by kernel_rfl) (by kernel_rfl) ?_
        repeat (go_big_quiet_step (first | with_reducible exact hcall.out _ _))
        refine wpQuiet_nil ?_
        intro _ hw'
        obtain ⟨⟨dq, osq⟩, hw''⟩ := hw'
        subst hw''
        have Hbq := Lib.hid (Hb.out.trans ((below_regrown wo dq osq).mono Hb.out.size))
        have Hkq := Lib.hid (blk_bels (below_regrown wo dq osq) Hk.out)
        clear Hk Hb
        go_wp2
        go_roundw
        case rel => exact ⟨m + 1, q, by omega, by omega, by go_num, rfl, Hn1.out, Hhi.out, Hbq.out, Hkq.out⟩
        case measure => simp [intOf]; omega
      · have Hn1 := Lib.hid (Hhi2.out (by omega))
        go_wp2_with fail
        refine wp_region_quiet_below (by kernel_rfl) (by kernel_rfl) ?_
        repeat (go_big_quiet_step (first | with_reducible exact hcall.out _ _))
        refine wpQuiet_nil ?_
        intro _ hw'
        obtain ⟨⟨dq, osq⟩, hw''⟩ := hw'
        subst hw''
        have Hbq := Lib.hid (Hb.out.trans ((below_regrown wo dq osq).mono Hb.out.size))
        have Hkq := Lib.hid (blk_bels (below_regrown wo dq osq) Hk.out)
        clear Hk Hb
        go_wp2
        go_roundw
        case rel => exact ⟨p, m, by omega, by omega, rfl, rfl, Hlo.out, Hn1.out, Hbq.out, Hkq.out⟩
        case measure => simp [intOf]; omega
    · obtain rfl : p = q := by omega
      have Hins := Lib.hid (insN_eq (l := l) (k := k) (p := p) (by rw [← Hn.out]; exact hqn) Hlo.out Hhi.out)
      by_cases hpn : p < n
      · obtain ⟨b, off, rfl, hcell⟩ := Hx.out (by omega)
        obtain ⟨x, hxk⟩ : ∃ x, l[p]? = some x := ⟨_, List.getElem?_eq_getElem (by rw [← Hn.out]; omega)⟩
        obtain ⟨d0, d1, d2, d3, d4, d5, d6, d7, d8⟩ := IsMr.row (w := wo) (fun i x hi j y hj => (hb.cell (block_lt_of_cell (hcell i x hi j y hj))).trans (hcell i x hi j y hj)) hxk
        obtain ⟨ra, rc, hrv, -, -, -⟩ := Hrr.out x (List.mem_of_getElem? hxk)
        clear hcell hxk
        obtain ⟨⟨mz, mn, ka, kb, refs⟩, vr⟩ := x
        dsimp only at d0 d1 d2 d3 d4 d5 d6 d7 d8 hrv
        generalize refs.length = rn at *
        subst hrv
        have e0 := cell_regrown d0
        have e1 := cell_regrown d1
        have e2 := cell_regrown d2
        have e3 := cell_regrown d3
        have e4 := cell_regrown d4
        have e5 := cell_regrown d5
        have e6 := cell_regrown d6
        have e7 := cell_regrown d7
        have e8 := cell_regrown d8
        have hcall : Hid (∀ (d : Nat) (os : Array Obj), Calls Try.prog 55 #[.agg #[.int .i64 mz, .int .i64 mn, .string ka.u, .int .i64 ka.s, .int .i64 ka.k, .string kb.u, .int .i64 kb.s, .int .i64 kb.k, .slice ra rn rc], .agg #[.string k.u, .int .i64 k.s, .int .i64 k.k]] (grow (redrawn wo d) os) fun e w'' => e = .returned (.int .i64 (cmpK ka k)) ∧ ∃ p : Regrown, w'' = grow (redrawn wo p.d) p.os) := fun d os => Calls.regrown_of (ap2_any mz mn ka kb k ra rn rc _)
        have Hb := Lib.hid hb
        clear d0 d1 d2 d3 d4 d5 d6 d7 d8 hb
        generalize cmpK ka k = cv at *
        go_wp2_with fail
        refine wp_region_quiet_below (by kernel_rfl) (by kernel_rfl) ?_
        repeat (go_big_quiet_step (first | with_reducible exact hcall.out _ _))
        refine wpQuiet_nil ?_
        intro _ hw'
        obtain ⟨⟨dq, osq⟩, hw''⟩ := hw'
        subst hw''
        have Hbq := Lib.hid (Hb.out.trans ((below_regrown wo dq osq).mono Hb.out.size))
        have Hkq := Lib.hid (blk_bels (below_regrown wo dq osq) Hk.out)
        go_wp2
        go_ret2
        exact ⟨_, Eq.trans rfl (congrArg (fun q : Nat => Ending.returned (.tuple #[.int .i64 (q : Int), .bool _])) Hins.out.symm), Hbq.out⟩
      · obtain rfl : p = n := by omega
        have Hb := Lib.hid hb
        clear hb
        have hundef : undef = Value.tuple #[] := rfl
        go_wp2_with fail
        refine wp_region_quiet_below (by kernel_rfl) (by kernel_rfl) ?_
        repeat (go_big_quiet_step (fail))
        refine wpQuiet_nil ?_
        intro _ hw'
        obtain ⟨⟨dq, osq⟩, hw''⟩ := hw'
        subst hw''
        have Hbq := Lib.hid (Hb.out.trans ((below_regrown wo dq osq).mono Hb.out.size))
        have Hkq := Lib.hid (blk_bels (below_regrown wo dq osq) Hk.out)
        go_wp2
        go_ret2
        exact ⟨_, Eq.trans rfl (congrArg (fun q : Nat => Ending.returned (.tuple #[.int .i64 (q : Int), .bool _])) Hins.out.symm), Hbq.out⟩
end Go.Proofs.Ythjjelomlgmllaa.Tithe
