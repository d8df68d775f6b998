/- slices.IndexFunc, slices.DeleteFunc of ops with a closure of two captures: walked (printed by mkflatdel.py). -/
import Derived.Test.YtbnodgoccmhjkaaFlatOp
import Derived.Test.YtbnodgoccmhjkaaRowEdit
import Derived.Test.YtbnodgoccmhjkaaFlatRows
import Derived.Shelf.RegionOpen
import Derived.Deep.Cut
namespace Go.Proofs.Ytbnodgoccmhjkaa.Tithe
open Go.RowKit Go.Sort Go.Shelf
set_option linter.unusedVariables false
set_option linter.unusedSimpArgs false
set_option maxRecDepth 100000
/-! ### rows of entries of a call's own: one is laid anew -/
theorem bo_cell {l : List Bo} {i : Nat} {x : Bo} (h : l[i]? = some x) : i < l.length := (List.getElem?_eq_some_iff.1 h).1
theorem own_setB {W : World} {base g n cap : Nat} {l : List Bo} (h : W.ownsRow base 40 3 (.slice (some ⟨g, 0, none⟩) n cap) n (flat Bo.cells l)) (hl : l.length = n) {i : Nat} (hi : i < n) (y : Bo) :
    (((W.setCell ⟨g, i * 3, none⟩ (.int .i64 y.k)).setCell ⟨g, i * 3 + 1, none⟩ (.string y.u)).setCell ⟨g, i * 3 + 2, none⟩ (.string y.v)).ownsRow base 40 3 (.slice (some ⟨g, 0, none⟩) n cap) n (flat Bo.cells (l.set i y)) := by
  obtain ⟨x, hx⟩ : ∃ x, l[i]? = some x := ⟨_, List.getElem?_eq_getElem (by omega)⟩
  have h0 := own_setAt h (i * 3) (.int .i64 y.k) (by omega)
  rw [show i * 3 = i * 3 + 0 from rfl, flat_set bo_len l i x ⟨y.k, x.u, x.v⟩ 0 (.int .i64 y.k) hx (by omega) rfl] at h0
  have h1 := own_setAt h0 (i * 3 + 1) (.string y.u) (by omega)
  rw [flat_set bo_len (l.set i ⟨y.k, x.u, x.v⟩) i ⟨y.k, x.u, x.v⟩ ⟨y.k, y.u, x.v⟩ 1 (.string y.u) (by rw [List.getElem?_set_self (by omega)]) (by omega) rfl, List.set_set] at h1
  have h2 := own_setAt h1 (i * 3 + 2) (.string y.v) (by omega)
  rw [flat_set bo_len (l.set i ⟨y.k, y.u, x.v⟩) i ⟨y.k, y.u, x.v⟩ y 2 (.string y.v) (by rw [List.getElem?_set_self (by omega)]) (by omega) rfl, List.set_set] at h2
  exact h2
theorem own_someB {W : World} {base g n cap : Nat} {e : TypeId} {size : Nat} {xs : List Value} (h : W.ownsRow base e size (.slice (some ⟨g, 0, none⟩) n cap) n xs) {j : Nat} (hj : j < n * size) : ∃ x, W.cell? ⟨g, j, none⟩ = some x ∧ W.frozen? ⟨g, j, none⟩ = false := by
  have hl := h.1
  obtain ⟨x, hx⟩ : ∃ x, xs[j]? = some x := ⟨_, List.getElem?_eq_getElem (by omega)⟩
  have := h.cells (g := g) rfl j x hx
  rw [plain_add', Nat.zero_add] at this
  exact ⟨x, this, own_frozen h j⟩
theorem own_headB {W : World} {base n c : Nat} {a : Option Addr} {l : List Bo} (h : W.ownsRow base 40 3 (.slice a n c) n (flat Bo.cells l)) (hp : 0 < n) : ∃ g, a = some ⟨g, 0, none⟩ ∧ base ≤ g := by
  rcases h.2 with ⟨e, h0⟩ | ⟨g, cap, cur, e, hb, -⟩
  · omega
  · injection e with e1 e2 e3
    exact ⟨g, e1, hb⟩
/-! ### which are left -/
def leftB (p : Bo → Bool) (l : List Bo) : List Bo := l.filter fun x => !p x
theorem leftB_succ (p : Bo → Bool) {l : List Bo} {k : Nat} {x : Bo} (h : l[k]? = some x) : leftB p (l.take (k + 1)) = leftB p (l.take k) ++ (if p x = true then [] else [x]) := by
  unfold leftB
  rw [List.take_add_one, h, List.filter_append]
  cases hd : p x <;> simp [hd]
theorem leftB_none {p : Bo → Bool} {l : List Bo} (h : l.findIdx? p = none) : leftB p l = l := by
  unfold leftB
  rw [List.filter_eq_self]
  intro x hx
  rw [List.findIdx?_eq_none_iff.1 h x hx]; rfl
theorem leftB_first {p : Bo → Bool} {l : List Bo} {i : Nat} (h : l.findIdx? p = some i) : i < l.length ∧ leftB p (l.take (i + 1)) = l.take i := by
  obtain ⟨h1, h2, h3⟩ := List.findIdx?_eq_some_iff_getElem.1 h
  refine ⟨h1, ?_⟩
  rw [leftB_succ p (List.getElem?_eq_getElem h1), if_pos h2, List.append_nil]
  unfold leftB
  rw [List.filter_eq_self]
  intro x hx
  obtain ⟨j, hj⟩ := List.mem_iff_getElem?.1 hx
  rw [List.getElem?_take] at hj
  split at hj
  · rename_i hji
    have := h3 j hji
    rw [(List.getElem?_eq_some_iff.1 hj).2] at this
    simpa using this
  · cases hj
theorem clrB_one (m : Nat) : ∀ u ∈ (Builtin.zeroCells (Value.agg #[.int .i64 0, .string ⟨#[]⟩, .string ⟨#[]⟩]).cells m).toList, u.oneCell' = true := by
  intro u hu
  unfold Builtin.zeroCells at hu
  simp only [Array.toList_map, List.mem_map] at hu
  obtain ⟨i, -, rfl⟩ := hu
  show (#[Value.int .i64 0, .string ⟨#[]⟩, .string ⟨#[]⟩][i % 3]!).oneCell' = true
  have : i % 3 = 0 ∨ i % 3 = 1 ∨ i % 3 = 2 := by omega
  rcases this with h | h | h <;> rw [h] <;> rfl
theorem clrB_len (m : Nat) : (Builtin.zeroCells (Value.agg #[.int .i64 0, .string ⟨#[]⟩, .string ⟨#[]⟩]).cells m).toList.length = m * 3 := by
  rw [Array.length_toList, size_zeroCells]; rfl
/-- what is behind the first i rows is cleared -/
theorem own_clearB {W : World} {base g n cap i : Nat} {R : List Bo} (h : W.ownsRow base 40 3 (.slice (some ⟨g, 0, none⟩) n cap) n (flat Bo.cells R)) (hR : R.length = n) (hi : i < n) (m : Nat) (hm : m = n - i) (cc : Nat) :
    ∃ W', (Builtin.clear_ #[37] 0 #[.slice (some ⟨g, i * 3, none⟩) m cc]).run Try.prog W = .ok (.tuple #[]) W' ∧ W'.ownsRow base 40 3 (.slice (some ⟨g, 0, none⟩) i cap) i (flat Bo.cells (R.take i)) ∧ W.grownBy W' (some g) := by
  obtain ⟨i0, hi0, hz0, hz1, hz2⟩ := info_partsO boInfo
  obtain ⟨cur, hg, hb, hnc, hcm, hcs, htake⟩ := own_blk h
  have hlen : cur.toList.length = cap * 3 := by rw [Array.length_toList]; exact hcs
  refine ⟨_, run_clear_k (P := Try.prog) W 37 0 40 i0 _ Try.underlying37 hi0 hz0 g (i * 3) m cc (by omega) cur 40 hg (by rw [clrB_len, hcs]; omega) (clrB_one m), ?_, setRow_grown _ _ _⟩
  refine own_of (setRow_blk W g _ hg) hb (by omega) hcm ?_ ?_
  · simp only [List.size_toArray]
    rw [patch_len (by rw [clrB_len, hlen]; omega)]; exact hlen
  · simp only
    rw [patch_take (by rw [hlen]; omega), flat_take_k bo_len, ← htake, List.take_take, Nat.min_eq_left (by omega)]
theorem grown_belowB {B : Nat} {W W' : World} {g : Nat} (h : W.grownBy W' (some g)) (hb : B ≤ g) (hB : B ≤ W.heap.size) : Below B W W' := (Below.refl B W).grown h hB (fun q e => by cases e; exact hb)
set_option maxHeartbeats 1600000 in
theorem index_two (pf : Nat) (cap cap1 : Value) (p : Bo → Bool) (v : Value) (l : List Bo) (w : World) (h : IsOs w v l)
    (hpf : ∀ (args : Array Value) (W : World), (callFunc pf args).run Try.prog W = .ok (.enter pf args) W)
    (hp : ∀ (k : Int) (u val : ByteArray) (W : World), (⟨k, u, val⟩ : Bo) ∈ l → Below w.heap.size w W → Calls Try.prog pf #[.agg #[.int .i64 k, .string u, .string val], cap, cap1] W fun e W' => e = .returned (.bool (p ⟨k, u, val⟩)) ∧ Below W.heap.size W W') :
    Calls Try.prog 38 #[v, .func (.func pf) #[] #[cap, cap1]] w fun e w' => e = .returned (.int .i64 (idxO l p)) ∧ Below w.heap.size w w' := by
  obtain ⟨a, c, rfl, -, -, -⟩ := id h
  obtain ⟨-, hc, hm, hx⟩ := h.at
  have Hx := Lib.hid hx
  have Hp := Lib.hid hp
  clear h hx hp
  obtain ⟨n, hn⟩ : ∃ n, n = l.length := ⟨_, rfl⟩
  rw [← hn] at Hx hc ⊢
  have Hn := Lib.hid hn
  clear hn
  go_enter Try.func38, Try.ntmps38
  go_wp2
  go_loopw [8] (fun i wr => ∃ k : Nat, k ≤ n ∧ i = .int .i64 k ∧ (∀ j y, j < k → l[j]? = some y → p y = false) ∧ Below w.heap.size w wr) (fun i _ => n - (intOf i).toNat)
  case atStart => exact ⟨0, Nat.zero_le _, rfl, by omega, Below.refl _ _⟩
  case round =>
    obtain ⟨wo, rfl⟩ : ∃ wo : World, wo = wr := ⟨_, rfl⟩
    obtain ⟨k, hk, rfl, hr, hb⟩ := hrel
    have Hr := Lib.hid hr
    have Hb := Lib.hid hb
    clear hr hb
    by_cases hkn : k < n
    · obtain ⟨b, off, rfl, hcell⟩ := Hx.out (by omega)
      obtain ⟨x, hxk⟩ : ∃ x, l[k]? = some x := ⟨_, List.getElem?_eq_getElem (by rw [← Hn.out]; exact hkn)⟩
      obtain ⟨c0, c1, c2⟩ := IsOs.row hcell hxk
      have d0 := (Hb.out.cell (block_lt_of_cell c0)).trans c0
      have d1 := (Hb.out.cell (block_lt_of_cell c1)).trans c1
      have d2 := (Hb.out.cell (block_lt_of_cell c2)).trans c2
      have Hxk := Lib.hid hxk
      clear hxk c0 c1 c2 hcell
      obtain ⟨kd, u, val⟩ := x
      dsimp only at d0 d1 d2
      have hpk := Lib.hid (Hp.out kd u val wo (List.mem_of_getElem? Hxk.out) Hb.out)
      cases hpx : p ⟨kd, u, val⟩ with
      | true =>
        have hpk2 := hpk.out
        rw [hpx] at hpk2
        have Hpk := Lib.hid hpk2
        have Hidx := Lib.hid (idxO_at Hr.out Hxk.out hpx)
        clear hpk hpk2 hpx
        go_wp2_with fail
        refine Hpk.out.mono ?_
        rintro e w2 ⟨rfl, hb2⟩
        go_wp2
        go_ret
        exact ⟨by unfold idxO; rw [Hidx.out]; rfl, Hb.out.trans (hb2.mono Hb.out.size)⟩
      | false =>
        have hpk2 := hpk.out
        rw [hpx] at hpk2
        have Hpk := Lib.hid hpk2
        have Hpx := Lib.hid hpx
        clear hpk hpk2 hpx
        go_wp2_with fail
        refine Hpk.out.mono ?_
        rintro e w2 ⟨rfl, hb2⟩
        have Hb2 := Lib.hid (Hb.out.trans (hb2.mono Hb.out.size))
        clear hb2
        go_wp2
        go_roundw
        case rel =>
          refine ⟨k + 1, by omega, by go_num, fun j y hj hy => ?_, Hb2.out⟩
          by_cases e : j = k
          · subst e
            have := Hxk.out.symm.trans hy
            injection this with this
            rw [← this]; exact Hpx.out
          · exact Hr.out j y (by omega) hy
        case measure => simp [intOf]; omega
    · obtain rfl : k = n := by omega
      have Hidx := Lib.hid (idxO_none (l := l) (p := p) (by rw [← Hn.out]; exact Hr.out))
      go_wp2
      go_ret
      exact ⟨by unfold idxO; rw [Hidx.out]; rfl, Hb.out⟩
attribute [local go_sem] Oper.semAt_some
set_option maxHeartbeats 3200000 in
theorem odelf_any (pf : Nat) (cap0 cap1 : Value) (p : Bo → Bool) (v : Value) (l : List Bo) (w : World) (base : Nat) (h : w.ownsRow base 40 3 v l.length (flat Bo.cells l)) (hbase : base ≤ w.heap.size) (hlen : l.length ≤ 1000000)
    (hpf : ∀ (args : Array Value) (W : World), (callFunc pf args).run Try.prog W = .ok (.enter pf args) W)
    (hp : ∀ (k : Int) (u val : ByteArray) (W : World), (⟨k, u, val⟩ : Bo) ∈ l → Below base w W → Calls Try.prog pf #[.agg #[.int .i64 k, .string u, .string val], cap0, cap1] W fun e W' => e = .returned (.bool (p ⟨k, u, val⟩)) ∧ Below W.heap.size W W') :
    Calls Try.prog 35 #[v, .func (.func pf) #[] #[cap0, cap1]] w fun e w' => ∃ v', e = .returned v' ∧ w'.ownsRow base 40 3 v' (leftB p l).length (flat Bo.cells (leftB p l)) ∧ Below base w w' := by
  have hes := isSl_own bo_len h
  have hix := index_two pf cap0 cap1 p v l w hes hpf (fun k u val W hm hb => hp k u val W hm (hb.mono hbase))
  cases hf : l.findIdx? p with
  | none =>
    have hI : idxO l p = -1 := by unfold idxO; rw [hf]
    rw [hI] at hix
    have Hix := Lib.hid hix
    have Hl := Lib.hid (leftB_none hf)
    have Hh := Lib.hid h
    obtain ⟨a, c, rfl⟩ := own_slice h
    clear hix h hes hp hf hI
    go_enter Try.func35, Try.ntmps35
    go_wp2_with fail
    refine Hix.out.mono ?_
    rintro e w2 ⟨rfl, hb2⟩
    go_wp2_with fail
    go_ret
    exact ⟨_, rfl, by rw [Hl.out]; exact own_below Hh.out hb2, hb2.mono hbase⟩
  | some i0 =>
    obtain ⟨hi0, hleft0⟩ := leftB_first hf
    have hI : idxO l p = (i0 : Int) := by unfold idxO; rw [hf]
    rw [hI] at hix
    obtain ⟨a, c, rfl⟩ := own_slice h
    obtain ⟨n, hn⟩ : ∃ n, n = l.length := ⟨_, rfl⟩
    rw [← hn] at h hix hlen hi0 ⊢
    obtain ⟨g, rfl, hbg⟩ := own_headB h (by omega)
    obtain ⟨cur, -, -, hnc, hcm, -⟩ := own_blk h
    have hcm' : c ≤ 9223372036854775807 := by unfold maxLen at hcm; omega
    have Hix := Lib.hid hix
    have Hl0 := Lib.hid hleft0
    have Hh := Lib.hid h
    have Hp := Lib.hid hp
    have Hn := Lib.hid hn
    have hpf2 := hpf
    clear hix h hes hp hf hI hleft0 hn cur hcm
    go_enter Try.func35, Try.ntmps35
    go_wp2_with fail
    refine Hix.out.mono ?_
    rintro e w2 ⟨rfl, hb2⟩
    have Hb2 := Lib.hid (hb2.mono hbase)
    have Hh2 := Lib.hid (own_below Hh.out hb2)
    have hi2 : ((i0 : Int) == -1) = false := beq_eq_false_iff_ne.2 (by omega)
    clear hb2
    go_wp2_with fail
    clear hi2
    go_loopw [5, 6] (fun iv jv wr => ∃ i j : Nat, i < j ∧ j ≤ n ∧ iv = .int .i64 i ∧ jv = .int .i64 j ∧ ∃ R : List Bo, R.length = n ∧ R.take i = leftB p (l.take j) ∧ R.drop j = l.drop j ∧ wr.ownsRow base 40 3 (.slice (some ⟨g, 0, none⟩) n c) n (flat Bo.cells R) ∧ Below base w wr) (fun _ jv _ => n - (intOf jv).toNat)
    case atStart => exact ⟨i0, i0 + 1, by omega, by omega, rfl, by go_num, l, Hn.out.symm, Hl0.out.symm, rfl, Hh2.out, Hb2.out⟩
    case round =>
      clear Hh2 Hb2
      obtain ⟨wo, rfl⟩ : ∃ wo : World, wo = wr := ⟨_, rfl⟩
      obtain ⟨i, j, hij, hj, rfl, rfl, R, hRl, hRt, hRd, hown, hb⟩ := hrel
      have Hb := Lib.hid hb
      have Hown := Lib.hid hown
      have HRl := Lib.hid hRl
      have HRt := Lib.hid hRt
      have HRd := Lib.hid hRd
      clear hb hown hRl hRt hRd
      by_cases hjn : j < n
      · obtain ⟨x, hxj⟩ : ∃ x, R[j]? = some x := ⟨_, List.getElem?_eq_getElem (by rw [HRl.out]; exact hjn)⟩
        have hlj : l[j]? = some x := by
          have e1 : (R.drop j)[0]? = R[j]? := by rw [List.getElem?_drop, Nat.add_zero]
          have e2 : (l.drop j)[0]? = l[j]? := by rw [List.getElem?_drop, Nat.add_zero]
          rw [← e2, ← HRd.out, e1]; exact hxj
        have hcc := fun (q : Nat) (u : Value) (hq : (Bo.cells x)[q]? = some u) => Hown.out.cells (g := g) rfl (j * 3 + q) u (flat_get bo_len R j x hxj q u hq)
        have d0 := hcc 0 _ rfl
        have d1 := hcc 1 _ rfl
        have d2 := hcc 2 _ rfl
        simp only [plain_add', Nat.zero_add, Nat.add_zero] at d0 d1 d2
        have hstep := leftB_succ p hlj
        have Hst := Lib.hid hstep
        have hmem : x ∈ l := List.mem_of_getElem? hlj
        have hRd2 : R.drop (j + 1) = l.drop (j + 1) := by
          have := congrArg (List.drop 1) HRd.out
          rwa [List.drop_drop, List.drop_drop] at this
        have HRd2 := Lib.hid hRd2
        clear hcc hxj hlj hstep hRd2 HRd
        obtain ⟨kd, u, val⟩ := x
        dsimp only at d0 d1 d2
        have hA : Below wo.heap.size wo (wo.alloc (.cells #[.int .i64 kd, .string u, .string val] 40)) := (Below.refl _ _).alloc (Nat.le_refl _) _
        have hbs : base ≤ wo.heap.size := by
          have := (own_blk Hown.out)
          obtain ⟨cur, hg, hb, -⟩ := this
          exact Nat.le_trans hb (Nat.le_of_lt (blk_lt hg))
        have HS := Lib.hid (blk_of_alloc wo (.cells #[.int .i64 kd, .string u, .string val] 40))
        have HbW := Lib.hid (Hb.out.trans (hA.mono hbs))
        have HoW := Lib.hid (own_below Hown.out hA)
        have HP := Lib.hid (Hp.out kd u val _ hmem HbW.out)
        obtain ⟨sb, hsb⟩ : ∃ o, o = wo.heap.size := ⟨_, rfl⟩
        have hsg : g < sb := by
          rw [hsb]
          obtain ⟨cur, hg, -⟩ := own_blk Hown.out
          exact blk_lt hg
        have Hsb := Lib.hid hsb
        rw [← hsb] at HS
        clear hA hsb hmem hbs
        have hjn2 : (j : Int) < (n : Int) := by omega
        go_upto_region 8 with fail
        rw [← Hsb.out]
        generalize wo.alloc (.cells #[.int .i64 kd, .string u, .string val] 40) = W at *
        clear Hsb d0 d1 d2
        have e0 := (cell_of_blk HS.out 0).trans (show _ = some (.int .i64 kd) from rfl)
        have e1 := (cell_of_blk HS.out 1).trans (show _ = some (.string u) from rfl)
        have e2 := (cell_of_blk HS.out 2).trans (show _ = some (.string val) from rfl)
        go_wp2_with fail
        refine HP.out.mono ?_
        rintro e w5 ⟨rfl, hb5⟩
        have hbW := HbW.out
        have hbs : base ≤ W.heap.size := by
          obtain ⟨cur, hg, hb, -⟩ := own_blk HoW.out
          exact Nat.le_trans hb (Nat.le_of_lt (blk_lt hg))
        have Hb5 := Lib.hid (hbW.trans (hb5.mono hbs))
        have Ho5 := Lib.hid (own_below HoW.out hb5)
        have HS5 := Lib.hid (blk_bels hb5 HS.out)
        clear hb5 e0 e1 e2 HP HS HoW HbW hbW hbs
        cases hpx : p ⟨kd, u, val⟩ with
        | true =>
          have Ht2 : Hid (leftB p (l.take (j + 1)) = leftB p (l.take j)) := Lib.hid (by rw [Hst.out, if_pos hpx, List.append_nil])
          clear Hst hpx
          go_wp2_with fail

          go_roundw
          case rel => exact ⟨i, j + 1, by omega, by omega, rfl, by go_num, R, HRl.out, by rw [Ht2.out]; exact HRt.out, HRd2.out, Ho5.out, Hb5.out⟩
          case measure => simp [intOf]; omega
        | false =>
          have Ht2 : Hid (leftB p (l.take (j + 1)) = leftB p (l.take j) ++ [⟨kd, u, val⟩]) := Lib.hid (by rw [Hst.out, hpx]; rfl)
          have e0 := (cell_of_blk HS5.out 0).trans (show _ = some (.int .i64 kd) from rfl)
          have e1 := (cell_of_blk HS5.out 1).trans (show _ = some (.string u) from rfl)
          have e2 := (cell_of_blk HS5.out 2).trans (show _ = some (.string val) from rfl)
          have hset := own_setB Ho5.out HRl.out (i := i) (by omega) ⟨kd, u, val⟩
          have Hset := Lib.hid hset
          have hgr : Below base w5 (((w5.setCell ⟨g, i * 3, none⟩ (.int .i64 kd)).setCell ⟨g, i * 3 + 1, none⟩ (.string u)).setCell ⟨g, i * 3 + 2, none⟩ (.string val)) := ((Below.setCell (p := ⟨g, i * 3, none⟩) (Below.refl _ _) hbg _).setCell (p := ⟨g, i * 3 + 1, none⟩) hbg _).setCell (p := ⟨g, i * 3 + 2, none⟩) hbg _
          have HbE := Lib.hid (Hb5.out.trans hgr)
          have hn4 : i * 3 + 3 ≤ n * 3 := by omega
          have o1 := own_setAt Ho5.out (i * 3) (.int .i64 kd) (by omega)
          have o2 := own_setAt o1 (i * 3 + 1) (.string u) (by omega)
          obtain ⟨x0, a0, b0⟩ := own_someB Ho5.out (j := i * 3) (by omega)
          obtain ⟨x1, a1, b1⟩ := own_someB o1 (j := i * 3 + 1) (by omega)
          obtain ⟨x2, a2, b2⟩ := own_someB o2 (j := i * 3 + 2) (by omega)
          clear hn4 o1 o2
          have hin : (i : Int) < (n : Int) := by omega
          clear Hst hpx hset hgr
          go_wp2_with fail
          go_roundw
          case rel => exact ⟨i + 1, j + 1, by omega, by omega, by go_num, by go_num, R.set i ⟨kd, u, val⟩, by rw [List.length_set]; exact HRl.out, by
            rw [Ht2.out, ← HRt.out, List.take_add_one, List.getElem?_set_self (by rw [HRl.out]; omega), List.take_set, List.set_eq_of_length_le (by rw [List.length_take]; omega)]; rfl, by rw [List.drop_set_of_lt (by omega)]; exact HRd2.out, Hset.out, HbE.out⟩
          case measure => simp [intOf]; omega
      · obtain rfl : n = j := by omega
        obtain ⟨W', hrun, ho', hg'⟩ := own_clearB Hown.out HRl.out hij (n - i) rfl (c - i)
        have hbs : base ≤ wo.heap.size := by
          obtain ⟨cur, hg, hb, -⟩ := own_blk Hown.out
          exact Nat.le_trans hb (Nat.le_of_lt (blk_lt hg))
        have HbE := Lib.hid (Hb.out.trans (grown_belowB hg' hbg hbs))
        have hL : R.take i = leftB p l := by
          rw [HRt.out, Hn.out, List.take_length]
        have hLl : (leftB p l).length = i := by rw [← hL, List.length_take, HRl.out]; omega
        have Ho' := Lib.hid ho'
        have HL := Lib.hid hL
        have HLl := Lib.hid hLl
        have hic : i ≤ c := by omega
        have hne : ¬ c = i := by omega
        clear ho' hL hLl hg' hbs
        go_wp2_with (with_reducible refine wpList_val rfl _ _ (run_clear_op (.tmp 38) 37 rfl rfl hrun) ?_)
        go_ret
        exact ⟨_, rfl, by rw [HLl.out, ← HL.out]; exact Ho'.out, HbE.out⟩
end Go.Proofs.Ytbnodgoccmhjkaa.Tithe
