/- slices.DeleteFunc of entries; compact.Gone: walked. -/
import Derived.Test.YtkjfjcigmmooiaaEntSet
import Derived.Test.YtkjfjcigmmooiaaRowEdit
import Derived.Shelf.RegionOpen
import Derived.Deep.Cut
namespace Go.Proofs.Ytkjfjcigmmooiaa.Tithe
open Go.RowKit Go.Sort Go.Shelf
set_option linter.unusedVariables false
set_option linter.unusedSimpArgs false
set_option maxRecDepth 100000
/-! ### rows of entries of a call's own: one is laid anew -/
theorem en_cell {l : List En} {i : Nat} {x : En} (h : l[i]? = some x) : i < l.length := (List.getElem?_eq_some_iff.1 h).1
theorem own_setE {W : World} {base g n cap : Nat} {l : List En} (h : W.ownsRow base 30 4 (.slice (some ⟨g, 0, none⟩) n cap) n (flat En.cells l)) (hl : l.length = n) {i : Nat} (hi : i < n) (y : En) :
    ((((W.setCell ⟨g, i * 4, none⟩ (.string y.key.u)).setCell ⟨g, i * 4 + 1, none⟩ (.int .i64 y.key.s)).setCell ⟨g, i * 4 + 2, none⟩ (.int .i64 y.key.k)).setCell ⟨g, i * 4 + 3, none⟩ (.string y.val)).ownsRow base 30 4 (.slice (some ⟨g, 0, none⟩) n cap) n (flat En.cells (l.set i y)) := by
  obtain ⟨x, hx⟩ : ∃ x, l[i]? = some x := ⟨_, List.getElem?_eq_getElem (by omega)⟩
  have h0 := own_setAt h (i * 4) (.string y.key.u) (by omega)
  rw [show i * 4 = i * 4 + 0 from rfl, flat_set en_len l i x ⟨⟨y.key.u, x.key.s, x.key.k⟩, x.val⟩ 0 (.string y.key.u) hx (by omega) rfl] at h0
  have h1 := own_setAt h0 (i * 4 + 1) (.int .i64 y.key.s) (by omega)
  rw [flat_set en_len (l.set i ⟨⟨y.key.u, x.key.s, x.key.k⟩, x.val⟩) i ⟨⟨y.key.u, x.key.s, x.key.k⟩, x.val⟩ ⟨⟨y.key.u, y.key.s, x.key.k⟩, x.val⟩ 1 (.int .i64 y.key.s) (by rw [List.getElem?_set_self (by omega)]) (by omega) rfl, List.set_set] at h1
  have h2 := own_setAt h1 (i * 4 + 2) (.int .i64 y.key.k) (by omega)
  rw [flat_set en_len (l.set i ⟨⟨y.key.u, y.key.s, x.key.k⟩, x.val⟩) i ⟨⟨y.key.u, y.key.s, x.key.k⟩, x.val⟩ ⟨⟨y.key.u, y.key.s, y.key.k⟩, x.val⟩ 2 (.int .i64 y.key.k) (by rw [List.getElem?_set_self (by omega)]) (by omega) rfl, List.set_set] at h2
  have h3 := own_setAt h2 (i * 4 + 3) (.string y.val) (by omega)
  rw [flat_set en_len (l.set i ⟨⟨y.key.u, y.key.s, y.key.k⟩, x.val⟩) i ⟨⟨y.key.u, y.key.s, y.key.k⟩, x.val⟩ y 3 (.string y.val) (by rw [List.getElem?_set_self (by omega)]) (by omega) rfl, List.set_set] at h3
  exact h3
theorem own_someE {W : World} {base g n cap : Nat} {e : TypeId} {size : Nat} {xs : List Value} (h : W.ownsRow base e size (.slice (some ⟨g, 0, none⟩) n cap) n xs) {j : Nat} (hj : j < n * size) : ∃ x, W.cell? ⟨g, j, none⟩ = some x ∧ W.frozen? ⟨g, j, none⟩ = false := by
  have hl := h.1
  obtain ⟨x, hx⟩ : ∃ x, xs[j]? = some x := ⟨_, List.getElem?_eq_getElem (by omega)⟩
  have := h.cells (g := g) rfl j x hx
  rw [plain_add', Nat.zero_add] at this
  exact ⟨x, this, own_frozen h j⟩
theorem own_head4 {W : World} {base n c : Nat} {a : Option Addr} {l : List En} (h : W.ownsRow base 30 4 (.slice a n c) n (flat En.cells l)) (hp : 0 < n) : ∃ g, a = some ⟨g, 0, none⟩ ∧ base ≤ g := by
  rcases h.2 with ⟨e, h0⟩ | ⟨g, cap, cur, e, hb, -⟩
  · omega
  · injection e with e1 e2 e3
    exact ⟨g, e1, hb⟩
/-! ### which are left -/
def leftE (p : En → Bool) (l : List En) : List En := l.filter fun x => !p x
theorem leftE_succ (p : En → Bool) {l : List En} {k : Nat} {x : En} (h : l[k]? = some x) : leftE p (l.take (k + 1)) = leftE p (l.take k) ++ (if p x = true then [] else [x]) := by
  unfold leftE
  rw [List.take_add_one, h, List.filter_append]
  cases hd : p x <;> simp [hd]
theorem leftE_none {p : En → Bool} {l : List En} (h : l.findIdx? p = none) : leftE p l = l := by
  unfold leftE
  rw [List.filter_eq_self]
  intro x hx
  rw [List.findIdx?_eq_none_iff.1 h x hx]; rfl
theorem leftE_first {p : En → Bool} {l : List En} {i : Nat} (h : l.findIdx? p = some i) : i < l.length ∧ leftE p (l.take (i + 1)) = l.take i := by
  obtain ⟨h1, h2, h3⟩ := List.findIdx?_eq_some_iff_getElem.1 h
  refine ⟨h1, ?_⟩
  rw [leftE_succ p (List.getElem?_eq_getElem h1), if_pos h2, List.append_nil]
  unfold leftE
  rw [List.filter_eq_self]
  intro x hx
  obtain ⟨j, hj⟩ := List.mem_iff_getElem?.1 hx
  rw [List.getElem?_take] at hj
  split at hj
  · rename_i hji
    have := h3 j hji
    rw [(List.getElem?_eq_some_iff.1 hj).2] at this
    simpa using this
  · cases hj
theorem clr_one (m : Nat) : ∀ u ∈ (Builtin.zeroCells (Value.agg #[.string ⟨#[]⟩, .int .i64 0, .int .i64 0, .string ⟨#[]⟩]).cells m).toList, u.oneCell' = true := by
  intro u hu
  unfold Builtin.zeroCells at hu
  simp only [Array.toList_map, List.mem_map] at hu
  obtain ⟨i, -, rfl⟩ := hu
  show (#[Value.string ⟨#[]⟩, .int .i64 0, .int .i64 0, .string ⟨#[]⟩][i % 4]!).oneCell' = true
  have : i % 4 = 0 ∨ i % 4 = 1 ∨ i % 4 = 2 ∨ i % 4 = 3 := by omega
  rcases this with h | h | h | h <;> rw [h] <;> rfl
theorem clr_len (m : Nat) : (Builtin.zeroCells (Value.agg #[.string ⟨#[]⟩, .int .i64 0, .int .i64 0, .string ⟨#[]⟩]).cells m).toList.length = m * 4 := by
  rw [Array.length_toList, size_zeroCells]; rfl
/-- what is behind the first i rows is cleared -/
theorem own_clear {W : World} {base g n cap i : Nat} {R : List En} (h : W.ownsRow base 30 4 (.slice (some ⟨g, 0, none⟩) n cap) n (flat En.cells R)) (hR : R.length = n) (hi : i < n) (m : Nat) (hm : m = n - i) (cc : Nat) :
    ∃ W', (Builtin.clear_ #[22] 0 #[.slice (some ⟨g, i * 4, none⟩) m cc]).run Try.prog W = .ok (.tuple #[]) W' ∧ W'.ownsRow base 30 4 (.slice (some ⟨g, 0, none⟩) i cap) i (flat En.cells (R.take i)) ∧ W.grownBy W' (some g) := by
  obtain ⟨i0, hi0, hz0, hz1, hz2⟩ := info_parts' enInfo
  obtain ⟨cur, hg, hb, hnc, hcm, hcs, htake⟩ := own_blk h
  have hlen : cur.toList.length = cap * 4 := by rw [Array.length_toList]; exact hcs
  refine ⟨_, run_clear_k (P := Try.prog) W 22 0 30 i0 _ Try.underlying22 hi0 hz0 g (i * 4) m cc (by omega) cur 30 hg (by rw [clr_len, hcs]; omega) (clr_one m), ?_, setRow_grown _ _ _⟩
  refine own_of (setRow_blk W g _ hg) hb (by omega) hcm ?_ ?_
  · simp only [List.size_toArray]
    rw [patch_len (by rw [clr_len, hlen]; omega)]; exact hlen
  · simp only
    rw [patch_take (by rw [hlen]; omega), flat_take_k en_len, ← htake, List.take_take, Nat.min_eq_left (by omega)]
theorem grown_belowE {B : Nat} {W W' : World} {g : Nat} (h : W.grownBy W' (some g)) (hb : B ≤ g) (hB : B ≤ W.heap.size) : Below B W W' := (Below.refl B W).grown h hB (fun q e => by cases e; exact hb)
set_option maxHeartbeats 1600000 in
theorem index_mem (pf : Nat) (cap : Value) (p : En → Bool) (v : Value) (l : List En) (w : World) (h : IsEs w v l)
    (hpf : ∀ (args : Array Value) (W : World), (callFunc pf args).run Try.prog W = .ok (.enter pf args) W)
    (hp : ∀ (u : ByteArray) (s k : Int) (val : ByteArray) (W : World), (⟨⟨u, s, k⟩, val⟩ : En) ∈ l → Below w.heap.size w W → Calls Try.prog pf #[.agg #[.string u, .int .i64 s, .int .i64 k, .string val], cap] W fun e W' => e = .returned (.bool (p ⟨⟨u, s, k⟩, val⟩)) ∧ Below W.heap.size W W') :
    Calls Try.prog 28 #[v, .func (.func pf) #[] #[cap]] w fun e w' => e = .returned (.int .i64 (idxI l p)) ∧ Below w.heap.size w w' := by
  obtain ⟨a, c, rfl, -, -, -⟩ := id h
  obtain ⟨-, hc, hm, hx⟩ := h.at
  have Hx := Lib.hid hx
  have Hp := Lib.hid hp
  clear h hx hp
  obtain ⟨n, hn⟩ : ∃ n, n = l.length := ⟨_, rfl⟩
  rw [← hn] at Hx hc ⊢
  have Hn := Lib.hid hn
  clear hn
  go_enter Try.func28, Try.ntmps28
  go_wp2
  go_loopw [8] (fun i wr => ∃ k : Nat, k ≤ n ∧ i = .int .i64 k ∧ (∀ j y, j < k → l[j]? = some y → p y = false) ∧ Below w.heap.size w wr) (fun i _ => n - (intOf i).toNat)
  case atStart => exact ⟨0, Nat.zero_le _, rfl, by omega, Below.refl _ _⟩
  case round =>
    obtain ⟨wo, rfl⟩ : ∃ wo : World, wo = wr := ⟨_, rfl⟩
    obtain ⟨k, hk, rfl, hr, hb⟩ := hrel
    have Hr := Lib.hid hr
    have Hb := Lib.hid hb
    clear hr hb
    by_cases hkn : k < n
    · obtain ⟨b, off, rfl, hcell⟩ := Hx.out (by omega)
      obtain ⟨x, hxk⟩ : ∃ x, l[k]? = some x := ⟨_, List.getElem?_eq_getElem (by rw [← Hn.out]; exact hkn)⟩
      obtain ⟨c0, c1, c2, c3⟩ := IsEs.row hcell hxk
      have d0 := (Hb.out.cell (block_lt_of_cell c0)).trans c0
      have d1 := (Hb.out.cell (block_lt_of_cell c1)).trans c1
      have d2 := (Hb.out.cell (block_lt_of_cell c2)).trans c2
      have d3 := (Hb.out.cell (block_lt_of_cell c3)).trans c3
      have Hxk := Lib.hid hxk
      clear hxk c0 c1 c2 c3 hcell
      obtain ⟨⟨u, s, kd⟩, val⟩ := x
      dsimp only at d0 d1 d2 d3
      have hpk := Lib.hid (Hp.out u s kd val wo (List.mem_of_getElem? Hxk.out) Hb.out)
      cases hpx : p ⟨⟨u, s, kd⟩, val⟩ with
      | true =>
        have hpk2 := hpk.out
        rw [hpx] at hpk2
        have Hpk := Lib.hid hpk2
        have Hidx := Lib.hid (idx_at Hr.out Hxk.out hpx)
        clear hpk hpk2 hpx
        go_wp2_with fail
        refine Hpk.out.mono ?_
        rintro e w2 ⟨rfl, hb2⟩
        go_wp2
        go_ret
        exact ⟨by unfold idxI; rw [Hidx.out]; rfl, Hb.out.trans (hb2.mono Hb.out.size)⟩
      | false =>
        have hpk2 := hpk.out
        rw [hpx] at hpk2
        have Hpk := Lib.hid hpk2
        have Hpx := Lib.hid hpx
        clear hpk hpk2 hpx
        go_wp2_with fail
        refine Hpk.out.mono ?_
        rintro e w2 ⟨rfl, hb2⟩
        have Hb2 := Lib.hid (Hb.out.trans (hb2.mono Hb.out.size))
        clear hb2
        go_wp2
        go_roundw
        case rel =>
          refine ⟨k + 1, by omega, by go_num, fun j y hj hy => ?_, Hb2.out⟩
          by_cases e : j = k
          · subst e
            have := Hxk.out.symm.trans hy
            injection this with this
            rw [← this]; exact Hpx.out
          · exact Hr.out j y (by omega) hy
        case measure => simp [intOf]; omega
    · obtain rfl : k = n := by omega
      have Hidx := Lib.hid (idx_none (l := l) (p := p) (by rw [← Hn.out]; exact Hr.out))
      go_wp2
      go_ret
      exact ⟨by unfold idxI; rw [Hidx.out]; rfl, Hb.out⟩
attribute [local go_sem] Oper.semAt_some
set_option maxHeartbeats 3200000 in
theorem edelf_any (pf : Nat) (cap0 : Value) (p : En → Bool) (v : Value) (l : List En) (w : World) (base : Nat) (h : w.ownsRow base 30 4 v l.length (flat En.cells l)) (hbase : base ≤ w.heap.size) (hlen : l.length ≤ 1000000)
    (hpf : ∀ (args : Array Value) (W : World), (callFunc pf args).run Try.prog W = .ok (.enter pf args) W)
    (hp : ∀ (u : ByteArray) (s k : Int) (val : ByteArray) (W : World), (⟨⟨u, s, k⟩, val⟩ : En) ∈ l → Below base w W → Calls Try.prog pf #[.agg #[.string u, .int .i64 s, .int .i64 k, .string val], cap0] W fun e W' => e = .returned (.bool (p ⟨⟨u, s, k⟩, val⟩)) ∧ Below W.heap.size W W') :
    Calls Try.prog 44 #[v, .func (.func pf) #[] #[cap0]] w fun e w' => ∃ v', e = .returned v' ∧ w'.ownsRow base 30 4 v' (leftE p l).length (flat En.cells (leftE p l)) ∧ Below base w w' := by
  have hes := isSl_own en_len h
  have hix := index_mem pf cap0 p v l w hes hpf (fun u s k val W hm hb => hp u s k val W hm (hb.mono hbase))
  cases hf : l.findIdx? p with
  | none =>
    have hI : idxI l p = -1 := by unfold idxI; rw [hf]
    rw [hI] at hix
    have Hix := Lib.hid hix
    have Hl := Lib.hid (leftE_none hf)
    have Hh := Lib.hid h
    obtain ⟨a, c, rfl⟩ := own_slice h
    clear hix h hes hp hf hI
    go_enter Try.func44, Try.ntmps44
    go_wp2_with fail
    refine Hix.out.mono ?_
    rintro e w2 ⟨rfl, hb2⟩
    go_wp2_with fail
    go_ret
    exact ⟨_, rfl, by rw [Hl.out]; exact own_below Hh.out hb2, hb2.mono hbase⟩
  | some i0 =>
    obtain ⟨hi0, hleft0⟩ := leftE_first hf
    have hI : idxI l p = (i0 : Int) := by unfold idxI; rw [hf]
    rw [hI] at hix
    obtain ⟨a, c, rfl⟩ := own_slice h
    obtain ⟨n, hn⟩ : ∃ n, n = l.length := ⟨_, rfl⟩
    rw [← hn] at h hix hlen hi0 ⊢
    obtain ⟨g, rfl, hbg⟩ := own_head4 h (by omega)
    obtain ⟨cur, -, -, hnc, hcm, -⟩ := own_blk h
    have hcm' : c ≤ 9223372036854775807 := by unfold maxLen at hcm; omega
    have Hix := Lib.hid hix
    have Hl0 := Lib.hid hleft0
    have Hh := Lib.hid h
    have Hp := Lib.hid hp
    have Hn := Lib.hid hn
    have hpf2 := hpf
    clear hix h hes hp hf hI hleft0 hn cur hcm
    go_enter Try.func44, Try.ntmps44
    go_wp2_with fail
    refine Hix.out.mono ?_
    rintro e w2 ⟨rfl, hb2⟩
    have Hb2 := Lib.hid (hb2.mono hbase)
    have Hh2 := Lib.hid (own_below Hh.out hb2)
    have hi2 : ((i0 : Int) == -1) = false := beq_eq_false_iff_ne.2 (by omega)
    clear hb2
    go_wp2_with fail
    clear hi2
    go_loopw [5, 6] (fun iv jv wr => ∃ i j : Nat, i < j ∧ j ≤ n ∧ iv = .int .i64 i ∧ jv = .int .i64 j ∧ ∃ R : List En, R.length = n ∧ R.take i = leftE p (l.take j) ∧ R.drop j = l.drop j ∧ wr.ownsRow base 30 4 (.slice (some ⟨g, 0, none⟩) n c) n (flat En.cells R) ∧ Below base w wr) (fun _ jv _ => n - (intOf jv).toNat)
    case atStart => exact ⟨i0, i0 + 1, by omega, by omega, rfl, by go_num, l, Hn.out.symm, Hl0.out.symm, rfl, Hh2.out, Hb2.out⟩
    case round =>
      clear Hh2 Hb2
      obtain ⟨wo, rfl⟩ : ∃ wo : World, wo = wr := ⟨_, rfl⟩
      obtain ⟨i, j, hij, hj, rfl, rfl, R, hRl, hRt, hRd, hown, hb⟩ := hrel
      have Hb := Lib.hid hb
      have Hown := Lib.hid hown
      have HRl := Lib.hid hRl
      have HRt := Lib.hid hRt
      have HRd := Lib.hid hRd
      clear hb hown hRl hRt hRd
      by_cases hjn : j < n
      · obtain ⟨x, hxj⟩ : ∃ x, R[j]? = some x := ⟨_, List.getElem?_eq_getElem (by rw [HRl.out]; exact hjn)⟩
        have hlj : l[j]? = some x := by
          have e1 : (R.drop j)[0]? = R[j]? := by rw [List.getElem?_drop, Nat.add_zero]
          have e2 : (l.drop j)[0]? = l[j]? := by rw [List.getElem?_drop, Nat.add_zero]
          rw [← e2, ← HRd.out, e1]; exact hxj
        have hcc := fun (q : Nat) (u : Value) (hq : (En.cells x)[q]? = some u) => Hown.out.cells (g := g) rfl (j * 4 + q) u (flat_get en_len R j x hxj q u hq)
        have d0 := hcc 0 _ rfl
        have d1 := hcc 1 _ rfl
        have d2 := hcc 2 _ rfl
        have d3 := hcc 3 _ rfl
        simp only [plain_add', Nat.zero_add, Nat.add_zero] at d0 d1 d2 d3
        have hstep := leftE_succ p hlj
        have Hst := Lib.hid hstep
        have hmem : x ∈ l := List.mem_of_getElem? hlj
        have hRd2 : R.drop (j + 1) = l.drop (j + 1) := by
          have := congrArg (List.drop 1) HRd.out
          rwa [List.drop_drop, List.drop_drop] at this
        have HRd2 := Lib.hid hRd2
        clear hcc hxj hlj hstep hRd2 HRd
        obtain ⟨⟨u, s, kd⟩, val⟩ := x
        dsimp only at d0 d1 d2 d3
        have hA : Below wo.heap.size wo (wo.alloc (.cells #[.string u, .int .i64 s, .int .i64 kd, .string val] 30)) := (Below.refl _ _).alloc (Nat.le_refl _) _
        have hbs : base ≤ wo.heap.size := by
          have := (own_blk Hown.out)
          obtain ⟨cur, hg, hb, -⟩ := this
          exact Nat.le_trans hb (Nat.le_of_lt (blk_lt hg))
        have HS := Lib.hid (blk_of_alloc wo (.cells #[.string u, .int .i64 s, .int .i64 kd, .string val] 30))
        have HbW := Lib.hid (Hb.out.trans (hA.mono hbs))
        have HoW := Lib.hid (own_below Hown.out hA)
        have HP := Lib.hid (Hp.out u s kd val _ hmem HbW.out)
        obtain ⟨sb, hsb⟩ : ∃ o, o = wo.heap.size := ⟨_, rfl⟩
        have hsg : g < sb := by
          rw [hsb]
          obtain ⟨cur, hg, -⟩ := own_blk Hown.out
          exact blk_lt hg
        have Hsb := Lib.hid hsb
        rw [← hsb] at HS
        clear hA hsb hmem hbs
        have hjn2 : (j : Int) < (n : Int) := by omega
        go_upto_region 8 with fail
        rw [← Hsb.out]
        generalize wo.alloc (.cells #[.string u, .int .i64 s, .int .i64 kd, .string val] 30) = W at *
        clear Hsb d0 d1 d2 d3
        have e0 := (cell_of_blk HS.out 0).trans (show _ = some (.string u) from rfl)
        have e1 := (cell_of_blk HS.out 1).trans (show _ = some (.int .i64 s) from rfl)
        have e2 := (cell_of_blk HS.out 2).trans (show _ = some (.int .i64 kd) from rfl)
        have e3 := (cell_of_blk HS.out 3).trans (show _ = some (.string val) from rfl)
        go_wp2_with fail
        refine HP.out.mono ?_
        rintro e w5 ⟨rfl, hb5⟩
        have hbW := HbW.out
        have hbs : base ≤ W.heap.size := by
          obtain ⟨cur, hg, hb, -⟩ := own_blk HoW.out
          exact Nat.le_trans hb (Nat.le_of_lt (blk_lt hg))
        have Hb5 := Lib.hid (hbW.trans (hb5.mono hbs))
        have Ho5 := Lib.hid (own_below HoW.out hb5)
        have HS5 := Lib.hid (blk_bels hb5 HS.out)
        clear hb5 e0 e1 e2 e3 HP HS HoW HbW hbW hbs
        cases hpx : p ⟨⟨u, s, kd⟩, val⟩ with
        | true =>
          have Ht2 : Hid (leftE p (l.take (j + 1)) = leftE p (l.take j)) := Lib.hid (by rw [Hst.out, if_pos hpx, List.append_nil])
          clear Hst hpx
          go_wp2_with fail

          go_roundw
          case rel => exact ⟨i, j + 1, by omega, by omega, rfl, by go_num, R, HRl.out, by rw [Ht2.out]; exact HRt.out, HRd2.out, Ho5.out, Hb5.out⟩
          case measure => simp [intOf]; omega
        | false =>
          have Ht2 : Hid (leftE p (l.take (j + 1)) = leftE p (l.take j) ++ [⟨⟨u, s, kd⟩, val⟩]) := Lib.hid (by rw [Hst.out, hpx]; rfl)
          have e0 := (cell_of_blk HS5.out 0).trans (show _ = some (.string u) from rfl)
          have e1 := (cell_of_blk HS5.out 1).trans (show _ = some (.int .i64 s) from rfl)
          have e2 := (cell_of_blk HS5.out 2).trans (show _ = some (.int .i64 kd) from rfl)
          have e3 := (cell_of_blk HS5.out 3).trans (show _ = some (.string val) from rfl)
          have hset := own_setE Ho5.out HRl.out (i := i) (by omega) ⟨⟨u, s, kd⟩, val⟩
          have Hset := Lib.hid hset
          have hgr : Below base w5 ((((w5.setCell ⟨g, i * 4, none⟩ (.string u)).setCell ⟨g, i * 4 + 1, none⟩ (.int .i64 s)).setCell ⟨g, i * 4 + 2, none⟩ (.int .i64 kd)).setCell ⟨g, i * 4 + 3, none⟩ (.string val)) := (((Below.setCell (p := ⟨g, i * 4, none⟩) (Below.refl _ _) hbg _).setCell (p := ⟨g, i * 4 + 1, none⟩) hbg _).setCell (p := ⟨g, i * 4 + 2, none⟩) hbg _).setCell (p := ⟨g, i * 4 + 3, none⟩) hbg _
          have HbE := Lib.hid (Hb5.out.trans hgr)
          have hn4 : i * 4 + 4 ≤ n * 4 := by omega
          have o1 := own_setAt Ho5.out (i * 4) (.string u) (by omega)
          have o2 := own_setAt o1 (i * 4 + 1) (.int .i64 s) (by omega)
          have o3 := own_setAt o2 (i * 4 + 2) (.int .i64 kd) (by omega)
          obtain ⟨x0, a0, b0⟩ := own_someE Ho5.out (j := i * 4) (by omega)
          obtain ⟨x1, a1, b1⟩ := own_someE o1 (j := i * 4 + 1) (by omega)
          obtain ⟨x2, a2, b2⟩ := own_someE o2 (j := i * 4 + 2) (by omega)
          obtain ⟨x3, a3, b3⟩ := own_someE o3 (j := i * 4 + 3) (by omega)
          clear hn4 o1 o2 o3
          have hin : (i : Int) < (n : Int) := by omega
          clear Hst hpx hset hgr
          go_wp2_with fail
          go_roundw
          case rel => exact ⟨i + 1, j + 1, by omega, by omega, by go_num, by go_num, R.set i ⟨⟨u, s, kd⟩, val⟩, by rw [List.length_set]; exact HRl.out, by
            rw [Ht2.out, ← HRt.out, List.take_add_one, List.getElem?_set_self (by rw [HRl.out]; omega), List.take_set, List.set_eq_of_length_le (by rw [List.length_take]; omega)]; rfl, by rw [List.drop_set_of_lt (by omega)]; exact HRd2.out, Hset.out, HbE.out⟩
          case measure => simp [intOf]; omega
      · obtain rfl : n = j := by omega
        obtain ⟨W', hrun, ho', hg'⟩ := own_clear Hown.out HRl.out hij (n - i) rfl (c - i)
        have hbs : base ≤ wo.heap.size := by
          obtain ⟨cur, hg, hb, -⟩ := own_blk Hown.out
          exact Nat.le_trans hb (Nat.le_of_lt (blk_lt hg))
        have HbE := Lib.hid (Hb.out.trans (grown_belowE hg' hbg hbs))
        have hL : R.take i = leftE p l := by
          rw [HRt.out, Hn.out, List.take_length]
        have hLl : (leftE p l).length = i := by rw [← hL, List.length_take, HRl.out]; omega
        have Ho' := Lib.hid ho'
        have HL := Lib.hid hL
        have HLl := Lib.hid hLl
        have hic : i ≤ c := by omega
        have hne : ¬ c = i := by omega
        clear ho' hL hLl hg' hbs
        go_wp2_with (with_reducible refine wpList_val rfl _ _ (run_clear_op (.tmp 38) 22 rfl rfl hrun) ?_)
        go_ret
        exact ⟨_, rfl, by rw [HLl.out, ← HL.out]; exact Ho'.out, HbE.out⟩
theorem gonep_any (u : ByteArray) (s k : Int) (val : ByteArray) (cb b n : Nat) (S : List Ky) (W : World) (hc : W.cell? ⟨cb, 0, none⟩ = some (.map (some b))) (hm : OwnsKs W b n S) (hk : GoodK ⟨u, s, k⟩) :
    Calls Try.prog 45 #[.agg #[.string u, .int .i64 s, .int .i64 k, .string val], .pointer (some ⟨cb, 0, none⟩)] W fun e W' => e = .returned (.bool (inK S ⟨u, s, k⟩)) ∧ Below W.heap.size W W' := by
  have hlt := block_lt_of_cell hc
  have hx : ∀ o, (W.alloc o).cell? ⟨cb, 0, none⟩ = some (.map (some b)) := fun o => by rw [World.cell?_alloc_lt W _ _ hlt]; exact hc
  have hrun := fun o => (hm.below ((Below.refl W.heap.size W).alloc (Nat.le_refl _) o)).look ⟨u, s, k⟩ hk
  dsimp only at hrun
  clear hc hlt hm
  go_enter Try.func45, Try.ntmps45
  go_wp2_with fail
  go_ret
  exact ⟨rfl, (Below.refl _ _).alloc (Nat.le_refl _) _⟩
def goneE (l l' : List En) : List En := leftE (fun x => inK (l'.map (·.key)) x.key) l
attribute [local go_sem] Oper.semAt_some
set_option maxHeartbeats 3200000 in
theorem gone_any (v v' : Value) (l l' : List En) (w : World) (h : IsEs w v l) (h' : IsEs w v' l') (hl : l.length ≤ 100000) (hl' : l'.length ≤ 100000) (hk : ∀ x ∈ l, GoodK x.key) (hk' : ∀ x ∈ l', GoodK x.key) :
    Calls Try.prog 23 #[v, v'] w fun e w' => ∃ r, e = .returned r ∧ w'.ownsRow w.heap.size 30 4 r (goneE l l').length (flat En.cells (goneE l l')) ∧ Below w.heap.size w w' := by
  obtain ⟨a, c, rfl, -, -, -⟩ := id h
  obtain ⟨a', c', rfl, -, -, -⟩ := id h'
  obtain ⟨-, hc', hm', hx'⟩ := h'.at
  obtain ⟨n, hn⟩ : ∃ n, n = l'.length := ⟨_, rfl⟩
  rw [← hn] at hc' hx' hl' ⊢
  have Hx' := Lib.hid hx'
  have Hn := Lib.hid hn
  have H := Lib.hid h
  have Hk := Lib.hid hk
  have Hk' := Lib.hid hk'
  have hmm := @run_makeMap Try.prog
  have HM1 : Hid (OwnsKs ((w.alloc (.map #[] 0)).alloc (.cells #[.map (some w.heap.size)] 105)) w.heap.size 0 []) := Lib.hid ((OwnsKs.made w).below ((Below.refl _ _).alloc (Nat.le_refl _) _))
  have HC1 : Hid (((w.alloc (.map #[] 0)).alloc (.cells #[.map (some w.heap.size)] 105)).heap[w.heap.size + 1]? = some (.cells #[.map (some w.heap.size)] 105 (0, 0))) := Lib.hid (by
    have := blk_of_alloc (w.alloc (.map #[] 0)) (.cells #[.map (some w.heap.size)] 105)
    rwa [World.size_alloc] at this)
  have HB1 : Hid (Below w.heap.size w ((w.alloc (.map #[] 0)).alloc (.cells #[.map (some w.heap.size)] 105))) := Lib.hid (((Below.refl _ _).alloc (Nat.le_refl _) _).alloc (by simp) _)
  obtain ⟨mb, hmb⟩ : ∃ o, o = w.heap.size := ⟨_, rfl⟩
  obtain ⟨cb, hcb⟩ : ∃ o, o = w.heap.size + 1 := ⟨_, rfl⟩
  have hmc : mb ≠ cb := by omega
  have Hmb := Lib.hid hmb
  have Hcb := Lib.hid hcb
  rw [← hcb] at HC1
  clear h h' hx' hn hk hk' hcb hmb
  go_enter Try.func23, Try.ntmps23
  go_upto_region 2 with fail
  rw [← Hcb.out]
  rw [← Hmb.out] at HM1 HC1 HB1 ⊢
  generalize (w.alloc (.map #[] 0)).alloc (.cells #[.map (some mb)] 105) = W1 at *
  clear hmm Hcb
  go_wp2_with fail
  go_loopw [11] (fun iv wr => ∃ k : Nat, k ≤ n ∧ iv = .int .i64 k ∧ wr.heap[cb]? = some (.cells #[.map (some mb)] 105 (0, 0)) ∧ OwnsKs wr mb k ((l'.take k).map (·.key)) ∧ Below mb w wr) (fun iv _ => n - (intOf iv).toNat)
  case atStart => exact ⟨0, Nat.zero_le _, rfl, HC1.out, HM1.out, HB1.out⟩
  case round =>
    clear HC1 HM1 HB1
    obtain ⟨wo, rfl⟩ : ∃ wo : World, wo = wr := ⟨_, rfl⟩
    obtain ⟨k, hk, rfl, hC, hM, hb⟩ := hrel
    have HC := Lib.hid hC
    have HM := Lib.hid hM
    have Hb := Lib.hid hb
    clear hC hM hb
    by_cases hkn : k < n
    · obtain ⟨b, off, rfl, hcell⟩ := Hx'.out (by omega)
      obtain ⟨x, hxk⟩ : ∃ x, l'[k]? = some x := ⟨_, List.getElem?_eq_getElem (by rw [← Hn.out]; exact hkn)⟩
      have hbw : Below w.heap.size w wo := by rw [← Hmb.out]; exact Hb.out
      obtain ⟨d0, d1, d2, d3⟩ := IsEs.row (w := wo) (fun i x hi j y hj => (hbw.cell (block_lt_of_cell (hcell i x hi j y hj))).trans (hcell i x hi j y hj)) hxk
      have htk : (l'.take (k + 1)).map (·.key) = (l'.take k).map (·.key) ++ [x.key] := by rw [List.take_add_one, hxk, List.map_append]; rfl
      have Htk := Lib.hid htk
      have hgk := Hk'.out x (List.mem_of_getElem? hxk)
      clear hcell hxk htk hbw
      obtain ⟨⟨u, s, kd⟩, val⟩ := x
      dsimp only at d0 d1 d2 d3
      have hmlt := HM.out.lt
      have hA : Below wo.heap.size wo (wo.alloc (.cells #[.string u, .int .i64 s, .int .i64 kd, .string val] 30)) := (Below.refl _ _).alloc (Nat.le_refl _) _
      have HS := Lib.hid (blk_of_alloc wo (.cells #[.string u, .int .i64 s, .int .i64 kd, .string val] 30))
      have HbW := Lib.hid (Hb.out.trans (hA.mono (Nat.le_of_lt hmlt)))
      have HMw := Lib.hid (HM.out.below hA)
      have HCw := Lib.hid (blk_bels hA HC.out)
      obtain ⟨W', hrun, hM2, hg2⟩ := HMw.out.put ⟨u, s, kd⟩ hgk (by unfold maxLen; omega)
      have HC2 := Lib.hid ((hg2.block cb (blk_lt HCw.out) (fun q => by cases q; exact hmc rfl)).trans HCw.out)
      have HM2 : Hid (OwnsKs W' mb (k + 1) ((l'.take (k + 1)).map (·.key))) := Lib.hid (by rw [Htk.out]; exact hM2)
      have Hb2 : Hid (Below mb w W') := Lib.hid (HbW.out.grown hg2 (Nat.le_of_lt HMw.out.lt) (fun q e => by cases e; exact Nat.le_refl _))
      obtain ⟨sb, hsb⟩ : ∃ o, o = wo.heap.size := ⟨_, rfl⟩
      have Hsb := Lib.hid hsb
      rw [← hsb] at HS
      clear hA hsb hM2 hg2 HM HC Hb hmlt HMw Htk hgk
      go_upto_region 5 with fail
      rw [← Hsb.out]
      generalize wo.alloc (.cells #[.string u, .int .i64 s, .int .i64 kd, .string val] 30) = W at *
      clear Hsb d0 d1 d2 d3
      have e0 := (cell_of_blk HS.out 0).trans (show _ = some (.string u) from rfl)
      have e1 := (cell_of_blk HS.out 1).trans (show _ = some (.int .i64 s) from rfl)
      have e2 := (cell_of_blk HS.out 2).trans (show _ = some (.int .i64 kd) from rfl)
      have f0 := (cell_of_blk HCw.out 0).trans (show _ = some (.map (some mb)) from rfl)
      dsimp only at hrun
      go_wp2_with fail
      go_roundw
      case rel => exact ⟨k + 1, by omega, by go_num, HC2.out, HM2.out, Hb2.out⟩
      case measure => simp [intOf]; omega
    · obtain rfl : n = k := by omega
      have hM : OwnsKs wo mb n (l'.map (·.key)) := by
        have := HM.out
        rwa [show l'.take n = l' from by rw [Hn.out, List.take_length]] at this
      have HMe := Lib.hid hM
      have hbw : Below w.heap.size w wo := by rw [← Hmb.out]; exact Hb.out
      have Hbw := Lib.hid hbw
      have HCl := Lib.hid (eclone_any (.slice a l.length c) l wo (H.out.below hbw) (by omega))
      clear hM hbw HM
      go_wp2_with fail
      refine HCl.out.mono ?_
      rintro e w3 ⟨v3, rfl, hown3, hb3⟩
      obtain ⟨a3, c3, rfl⟩ := own_slice hown3
      have HC3 := Lib.hid (blk_bels hb3 HC.out)
      have HM3 := Lib.hid (HMe.out.below hb3)
      have hml := HMe.out.lt
      have hcl := blk_lt HC.out
      have HDl := Lib.hid (edelf_any 45 (.pointer (some ⟨cb, 0, none⟩)) (fun x => inK (l'.map (·.key)) x.key) _ l w3 wo.heap.size hown3 hb3.size (by omega) (fun args W => by go_simp) (fun u s k val W hm hW => gonep_any u s k val cb mb n _ W ((cell_of_blk (blk_bel hW hcl HC3.out) 0).trans rfl) (HM3.out.of_blk (hW.block mb hml)) (Hk.out _ hm)))
      have Hb3 := Lib.hid hb3
      clear hown3 hb3 HCl HMe HC3 HM3 hml hcl HC Hb
      go_wp2_with fail
      refine HDl.out.mono ?_
      rintro e w4 ⟨v4, rfl, hown4, hb4⟩
      obtain ⟨a4, c4, rfl⟩ := own_slice hown4
      have Ho4 := Lib.hid (own_mono hown4 Hbw.out.size)
      have Hb4 := Lib.hid (Hbw.out.trans ((Hb3.out.trans hb4).mono Hbw.out.size))
      clear hown4 hb4 HDl
      go_wp2_with fail
      go_ret
      exact ⟨_, rfl, Ho4.out, Hb4.out⟩
end Go.Proofs.Ytkjfjcigmmooiaa.Tithe
