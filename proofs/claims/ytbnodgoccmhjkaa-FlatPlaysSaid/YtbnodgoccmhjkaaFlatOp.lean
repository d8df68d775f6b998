/- Ops: rows of them; Clone, IndexFunc; Check of an op and of a batch: walked. -/
import Derived.Test.YtbnodgoccmhjkaaRowEdit
import Derived.Test.YtbnodgoccmhjkaaKeyPlain
import Derived.Shelf.RegionOpen
import Derived.Deep.Cut
namespace Go.Proofs.Ytbnodgoccmhjkaa.Tithe
open Go.RowKit Go.Sort Go.Shelf
set_option linter.unusedVariables false
set_option linter.unusedSimpArgs false
set_option maxRecDepth 100000
structure Bo where
  k : Int
  u : ByteArray
  v : ByteArray
def Bo.nil : Bo := ⟨0, ⟨#[]⟩, ⟨#[]⟩⟩
def Bo.cells (x : Bo) : List Value := [.int .i64 x.k, .string x.u, .string x.v]
theorem bo_len (x : Bo) : x.cells.length = 3 := rfl
abbrev IsOs (w : World) (v : Value) (l : List Bo) : Prop := IsSl Bo.cells 3 w v l
theorem IsOs.row {w : World} {b off : Nat} {l : List Bo} (h : ∀ i x, l[i]? = some x → ∀ j y, (Bo.cells x)[j]? = some y → w.cell? ⟨b, off + i * 3 + j, none⟩ = some y) {i : Nat} {x : Bo} (hx : l[i]? = some x) :
    w.cell? ⟨b, off + i * 3, none⟩ = some (.int .i64 x.k) ∧ w.cell? ⟨b, off + i * 3 + 1, none⟩ = some (.string x.u) ∧ w.cell? ⟨b, off + i * 3 + 2, none⟩ = some (.string x.v) :=
  ⟨h i x hx 0 _ rfl, h i x hx 1 _ rfl, h i x hx 2 _ rfl⟩
theorem bo_one (x : Bo) : ∀ u ∈ x.cells, u.oneCell' = true := by
  intro u hu
  simp only [Bo.cells, List.mem_cons, List.not_mem_nil, or_false] at hu
  rcases hu with rfl | rfl | rfl <;> rfl
theorem bos_one (l : List Bo) : ∀ u ∈ flat Bo.cells l, u.oneCell' = true := by
  intro u hu
  simp only [flat, List.mem_flatMap] at hu
  obtain ⟨x, -, hx⟩ := hu
  exact bo_one x u hx
theorem info_partsO {α β γ δ : Type} {f : α → Option β} {g : α → γ} {h : α → δ} {o : Option α} {b : Option β} {c : γ} {d : δ} (hh : o.map (fun i => (f i, g i, h i)) = some (b, c, d)) : ∃ i, o = some i ∧ f i = b ∧ g i = c ∧ h i = d := by
  cases o with
  | none => cases hh
  | some i => injection hh with e; injection e with e1 e2; injection e2 with e2 e3; exact ⟨i, rfl, e1, e2, e3⟩
theorem boInfo : (Try.prog.info? 40).map (fun i => (i.zero, i.size, i.bytes)) = some (some (.agg #[.int .i64 0, .string ⟨#[]⟩, .string ⟨#[]⟩]), 3, 40) := by kernel_rfl
def idxO (l : List Bo) (p : Bo → Bool) : Int := match l.findIdx? p with | some i => (i : Int) | none => -1
theorem ownsRow_emptyO (w : World) (t : TypeId) (size : Nat) : (w.alloc (.cells #[] t)).ownsRow w.heap.size t size (.slice (some ⟨w.heap.size, 0, none⟩) 0 0) 0 [] := by
  refine ⟨by simp, .inr ⟨w.heap.size, 0, #[], rfl, Nat.le_refl _, ?_, Nat.le_refl _, by decide, by simp, by simp⟩⟩
  show (w.heap.push _)[w.heap.size]? = _
  simp
set_option maxRecDepth 100000 in
set_option maxHeartbeats 800000 in
theorem oclone_any (v : Value) (l : List Bo) (w : World) (h : IsOs w v l) (hlen : l.length ≤ 1000000) : Calls Try.prog 37 #[v] w fun e w' => ∃ v', e = .returned v' ∧ w'.ownsRow w.heap.size 40 3 v' l.length (flat Bo.cells l) ∧ Below w.heap.size w w' := by
  obtain ⟨i0, hi0, hz0, hz1, hz2⟩ := info_partsO boInfo
  obtain ⟨a0, c, rfl, -, -, -⟩ := id h
  obtain ⟨n, hn0⟩ : ∃ n, n = l.length := ⟨_, rfl⟩
  cases a0 with
  | none =>
    have hs : ∀ w : World, (binOp .eql 37 (.slice none 0 c) (.slice none 0 0)).run Try.prog w = .ok (.bool true) w := fun _ => rfl
    have hl : l = [] := by
      obtain ⟨-, -, -, hx⟩ := h.at
      rcases Nat.eq_zero_or_pos l.length with q | q
      · exact List.eq_nil_of_length_eq_zero q
      · obtain ⟨_, _, e, _⟩ := hx q; cases e
    subst hl
    clear h hn0
    rw [List.length_nil]
    go_enter Try.func37, Try.ntmps37
    go_wp2
    go_ret
    exact ⟨_, rfl, World.ownsRow_nil _ _ _ _, Below.refl _ _⟩
  | some ad =>
    rw [← hn0] at h
    have hs : ∀ w : World, (binOp .eql 37 (.slice (some ad) n c) (.slice none 0 0)).run Try.prog w = .ok (.bool false) w := fun _ => rfl
    obtain ⟨hn, hc, hm, hx⟩ := h.at
    have hnews : ∀ (o : Obj) (j : Nat) (z : Value), (flat Bo.cells l)[j]? = some z → (w.alloc o).cell? (ad.add j) = some z := by
      intro o j z hj
      have hpos : 0 < n := by
        rcases Nat.eq_zero_or_pos n with q | q
        · exfalso
          obtain rfl : l = [] := List.eq_nil_of_length_eq_zero (by omega)
          simp [flat] at hj
        · exact q
      obtain ⟨b, off, e, -⟩ := hx hpos
      injection e with e
      subst e
      have := h.news bo_len j z hj
      rw [World.cell?_alloc_lt w _ _ (block_lt_of_cell this)]; exact this
    have Hnews := Lib.hid hnews
    have Hl : Hid ((flat Bo.cells l).length = n * 3) := by rw [flat_length bo_len, hn]; exact Lib.hid rfl
    have Hn := Lib.hid hn
    have hn1 : n ≤ 1000000 := by omega
    rw [← hn0]
    clear h hx hnews hn hn0
    go_enter Try.func37, Try.ntmps37
    go_wp2_with (first | (at_builtin; refine wpList_append_own _ rfl (.tmp 5) (.tmp 6) 37 rfl w.heap.size 40 i0 (.agg #[.int .i64 0, .string ⟨#[]⟩, .string ⟨#[]⟩]) 3 40 Try.underlying37 hi0 hz0 hz1 hz2 rfl (by decide) (.slice (some ⟨w.heap.size, 0, none⟩) 0 0) 0 [] rfl (ownsRow_emptyO w _ _) ad n c (flat Bo.cells l) rfl ?c1 ?c2 ?c3 ?c4 ?c5 ?c6 ?_))
    case c1 => exact Hl.out
    case c2 => exact Hnews.out _
    case c3 => exact bos_one l
    case c4 => unfold maxLen; omega
    case c5 => omega
    case c6 => first | omega | (simp; omega) | simp
    intro v' w1 hown' hgrow _
    have hg : Below w.heap.size w w1 := grow_own ((Below.refl _ _).alloc (Nat.le_refl _) _) (ownsRow_emptyO w 40 3) hgrow (Nat.le_refl _) (by simp)
    have Hown := Lib.hid hown'
    clear hown' hgrow
    go_wp2
    go_ret
    exact ⟨_, rfl, Hown.out, hg⟩
theorem idxO_at {l : List Bo} {p : Bo → Bool} {k : Nat} {x : Bo} (h : ∀ j y, j < k → l[j]? = some y → p y = false) (hx : l[k]? = some x) (hp : p x = true) : l.findIdx? p = some k := by
  obtain ⟨hk, he⟩ := List.getElem?_eq_some_iff.1 hx
  rw [List.findIdx?_eq_some_iff_getElem]
  refine ⟨hk, by rw [he]; exact hp, fun j hj => ?_⟩
  rw [h j _ hj (List.getElem?_eq_getElem (by omega))]; simp
theorem idxO_none {l : List Bo} {p : Bo → Bool} (h : ∀ j y, j < l.length → l[j]? = some y → p y = false) : l.findIdx? p = none := by
  rw [List.findIdx?_eq_none_iff]
  intro x hx
  obtain ⟨j, hj, rfl⟩ := List.mem_iff_getElem.1 hx
  exact h j _ hj (List.getElem?_eq_getElem hj)
set_option maxHeartbeats 1600000 in
theorem oindex_mem (pf : Nat) (cap : Value) (p : Bo → Bool) (v : Value) (l : List Bo) (w : World) (h : IsOs w v l)
    (hpf : ∀ (args : Array Value) (W : World), (callFunc pf args).run Try.prog W = .ok (.enter pf args) W)
    (hp : ∀ (k : Int) (u val : ByteArray) (W : World), (⟨k, u, val⟩ : Bo) ∈ l → Below w.heap.size w W → Calls Try.prog pf #[.agg #[.int .i64 k, .string u, .string val], cap] W fun e W' => e = .returned (.bool (p ⟨k, u, val⟩)) ∧ Below W.heap.size W W') :
    Calls Try.prog 38 #[v, .func (.func pf) #[] #[cap]] w fun e w' => e = .returned (.int .i64 (idxO l p)) ∧ Below w.heap.size w w' := by
  obtain ⟨a, c, rfl, -, -, -⟩ := id h
  obtain ⟨-, hc, hm, hx⟩ := h.at
  have Hx := Lib.hid hx
  have Hp := Lib.hid hp
  clear h hx hp
  obtain ⟨n, hn⟩ : ∃ n, n = l.length := ⟨_, rfl⟩
  rw [← hn] at Hx hc ⊢
  have Hn := Lib.hid hn
  clear hn
  go_enter Try.func38, Try.ntmps38
  go_wp2
  go_loopw [8] (fun i wr => ∃ k : Nat, k ≤ n ∧ i = .int .i64 k ∧ (∀ j y, j < k → l[j]? = some y → p y = false) ∧ Below w.heap.size w wr) (fun i _ => n - (intOf i).toNat)
  case atStart => exact ⟨0, Nat.zero_le _, rfl, by omega, Below.refl _ _⟩
  case round =>
    obtain ⟨wo, rfl⟩ : ∃ wo : World, wo = wr := ⟨_, rfl⟩
    obtain ⟨k, hk, rfl, hr, hb⟩ := hrel
    have Hr := Lib.hid hr
    have Hb := Lib.hid hb
    clear hr hb
    by_cases hkn : k < n
    · obtain ⟨b, off, rfl, hcell⟩ := Hx.out (by omega)
      obtain ⟨x, hxk⟩ : ∃ x, l[k]? = some x := ⟨_, List.getElem?_eq_getElem (by rw [← Hn.out]; exact hkn)⟩
      obtain ⟨c0, c1, c2⟩ := IsOs.row hcell hxk
      have d0 := (Hb.out.cell (block_lt_of_cell c0)).trans c0
      have d1 := (Hb.out.cell (block_lt_of_cell c1)).trans c1
      have d2 := (Hb.out.cell (block_lt_of_cell c2)).trans c2
      have Hxk := Lib.hid hxk
      clear hxk c0 c1 c2 hcell
      obtain ⟨kd, u, val⟩ := x
      dsimp only at d0 d1 d2
      have hpk := Lib.hid (Hp.out kd u val wo (List.mem_of_getElem? Hxk.out) Hb.out)
      cases hpx : p ⟨kd, u, val⟩ with
      | true =>
        have hpk2 := hpk.out
        rw [hpx] at hpk2
        have Hpk := Lib.hid hpk2
        have Hidx := Lib.hid (idxO_at Hr.out Hxk.out hpx)
        clear hpk hpk2 hpx
        go_wp2_with fail
        refine Hpk.out.mono ?_
        rintro e w2 ⟨rfl, hb2⟩
        go_wp2
        go_ret
        exact ⟨by unfold idxO; rw [Hidx.out]; rfl, Hb.out.trans (hb2.mono Hb.out.size)⟩
      | false =>
        have hpk2 := hpk.out
        rw [hpx] at hpk2
        have Hpk := Lib.hid hpk2
        have Hpx := Lib.hid hpx
        clear hpk hpk2 hpx
        go_wp2_with fail
        refine Hpk.out.mono ?_
        rintro e w2 ⟨rfl, hb2⟩
        have Hb2 := Lib.hid (Hb.out.trans (hb2.mono Hb.out.size))
        clear hb2
        go_wp2
        go_roundw
        case rel =>
          refine ⟨k + 1, by omega, by go_num, fun j y hj hy => ?_, Hb2.out⟩
          by_cases e : j = k
          · subst e
            have := Hxk.out.symm.trans hy
            injection this with this
            rw [← this]; exact Hpx.out
          · exact Hr.out j y (by omega) hy
        case measure => simp [intOf]; omega
    · obtain rfl : k = n := by omega
      have Hidx := Lib.hid (idxO_none (l := l) (p := p) (by rw [← Hn.out]; exact Hr.out))
      go_wp2
      go_ret
      exact ⟨by unfold idxO; rw [Hidx.out]; rfl, Hb.out⟩
set_option maxHeartbeats 1600000 in
theorem oindex0 (pf : Nat) (p : Bo → Bool) (v : Value) (l : List Bo) (w : World) (h : IsOs w v l)
    (hpf : ∀ (args : Array Value) (W : World), (callFunc pf args).run Try.prog W = .ok (.enter pf args) W)
    (hp : ∀ (k : Int) (u val : ByteArray) (W : World), (⟨k, u, val⟩ : Bo) ∈ l → Below w.heap.size w W → Calls Try.prog pf #[.agg #[.int .i64 k, .string u, .string val]] W fun e W' => e = .returned (.bool (p ⟨k, u, val⟩)) ∧ Below W.heap.size W W') :
    Calls Try.prog 38 #[v, .func (.func pf) #[] #[]] w fun e w' => e = .returned (.int .i64 (idxO l p)) ∧ Below w.heap.size w w' := by
  obtain ⟨a, c, rfl, -, -, -⟩ := id h
  obtain ⟨-, hc, hm, hx⟩ := h.at
  have Hx := Lib.hid hx
  have Hp := Lib.hid hp
  clear h hx hp
  obtain ⟨n, hn⟩ : ∃ n, n = l.length := ⟨_, rfl⟩
  rw [← hn] at Hx hc ⊢
  have Hn := Lib.hid hn
  clear hn
  go_enter Try.func38, Try.ntmps38
  go_wp2
  go_loopw [8] (fun i wr => ∃ k : Nat, k ≤ n ∧ i = .int .i64 k ∧ (∀ j y, j < k → l[j]? = some y → p y = false) ∧ Below w.heap.size w wr) (fun i _ => n - (intOf i).toNat)
  case atStart => exact ⟨0, Nat.zero_le _, rfl, by omega, Below.refl _ _⟩
  case round =>
    obtain ⟨wo, rfl⟩ : ∃ wo : World, wo = wr := ⟨_, rfl⟩
    obtain ⟨k, hk, rfl, hr, hb⟩ := hrel
    have Hr := Lib.hid hr
    have Hb := Lib.hid hb
    clear hr hb
    by_cases hkn : k < n
    · obtain ⟨b, off, rfl, hcell⟩ := Hx.out (by omega)
      obtain ⟨x, hxk⟩ : ∃ x, l[k]? = some x := ⟨_, List.getElem?_eq_getElem (by rw [← Hn.out]; exact hkn)⟩
      obtain ⟨c0, c1, c2⟩ := IsOs.row hcell hxk
      have d0 := (Hb.out.cell (block_lt_of_cell c0)).trans c0
      have d1 := (Hb.out.cell (block_lt_of_cell c1)).trans c1
      have d2 := (Hb.out.cell (block_lt_of_cell c2)).trans c2
      have Hxk := Lib.hid hxk
      clear hxk c0 c1 c2 hcell
      obtain ⟨kd, u, val⟩ := x
      dsimp only at d0 d1 d2
      have hpk := Lib.hid (Hp.out kd u val wo (List.mem_of_getElem? Hxk.out) Hb.out)
      cases hpx : p ⟨kd, u, val⟩ with
      | true =>
        have hpk2 := hpk.out
        rw [hpx] at hpk2
        have Hpk := Lib.hid hpk2
        have Hidx := Lib.hid (idxO_at Hr.out Hxk.out hpx)
        clear hpk hpk2 hpx
        go_wp2_with fail
        refine Hpk.out.mono ?_
        rintro e w2 ⟨rfl, hb2⟩
        go_wp2
        go_ret
        exact ⟨by unfold idxO; rw [Hidx.out]; rfl, Hb.out.trans (hb2.mono Hb.out.size)⟩
      | false =>
        have hpk2 := hpk.out
        rw [hpx] at hpk2
        have Hpk := Lib.hid hpk2
        have Hpx := Lib.hid hpx
        clear hpk hpk2 hpx
        go_wp2_with fail
        refine Hpk.out.mono ?_
        rintro e w2 ⟨rfl, hb2⟩
        have Hb2 := Lib.hid (Hb.out.trans (hb2.mono Hb.out.size))
        clear hb2
        go_wp2
        go_roundw
        case rel =>
          refine ⟨k + 1, by omega, by go_num, fun j y hj hy => ?_, Hb2.out⟩
          by_cases e : j = k
          · subst e
            have := Hxk.out.symm.trans hy
            injection this with this
            rw [← this]; exact Hpx.out
          · exact Hr.out j y (by omega) hy
        case measure => simp [intOf]; omega
    · obtain rfl : k = n := by omega
      have Hidx := Lib.hid (idxO_none (l := l) (p := p) (by rw [← Hn.out]; exact Hr.out))
      go_wp2
      go_ret
      exact ⟨by unfold idxO; rw [Hidx.out]; rfl, Hb.out⟩
/-! ### which ops may be written -/
def okO (x : Bo) : Bool := decide (1 ≤ x.k) && decide (x.k ≤ 2) && decide (1 ≤ x.u.size) && decide (x.u.size ≤ 64) && decide (x.v.size ≤ 4096) && !(decide (x.k = 2) && !x.v.toList.isEmpty)
def chkO (x : Bo) : Int := if okO x then 0 else 100
theorem chkO_bad {x : Bo} (h : x.k < 1 ∨ 2 < x.k ∨ x.u.size < 1 ∨ 64 < x.u.size ∨ 4096 < x.v.size ∨ (x.k = 2 ∧ x.v.toList.isEmpty = false)) : chkO x = 100 := by
  unfold chkO
  have : okO x = false := by
    cases hq : okO x with
    | false => rfl
    | true =>
      exfalso
      unfold okO at hq
      simp only [Bool.and_eq_true, decide_eq_true_eq, Bool.not_eq_true', Bool.and_eq_false_iff, decide_eq_false_iff_not, Bool.not_eq_false'] at hq
      obtain ⟨⟨⟨⟨⟨h1, h2⟩, h3⟩, h4⟩, h5⟩, h6⟩ := hq
      rcases h with h | h | h | h | h | ⟨h, h'⟩
      · omega
      · omega
      · omega
      · omega
      · omega
      · rcases h6 with h6 | h6
        · exact h6 h
        · rw [h6] at h'; cases h'
  rw [this]; rfl
theorem chkO_ok {x : Bo} (h1 : ¬ x.k < 1) (h2 : ¬ 2 < x.k) (h3 : ¬ x.u.size < 1) (h4 : ¬ 64 < x.u.size) (h5 : ¬ 4096 < x.v.size) (h6 : ¬ x.k = 2 ∨ x.v.toList.isEmpty = true) : chkO x = 0 := by
  unfold chkO
  have : okO x = true := by
    unfold okO
    simp only [Bool.and_eq_true, decide_eq_true_eq, Bool.not_eq_true', Bool.and_eq_false_iff, decide_eq_false_iff_not, Bool.not_eq_false']
    exact ⟨⟨⟨⟨⟨by omega, by omega⟩, by omega⟩, by omega⟩, by omega⟩, h6⟩
  rw [this]; rfl
theorem ocheck_any (k : Int) (u v : ByteArray) (w : World) : Calls Try.prog 79 #[.agg #[.int .i64 k, .string u, .string v]] w fun e w' => e = .returned (.int .i64 (chkO ⟨k, u, v⟩)) ∧ Below w.heap.size w w' := by
  cases hv : v.toList.isEmpty with
  | true =>
    go_enter Try.func79, Try.ntmps79
    go_wp2
    all_goals go_ret
    all_goals refine ⟨?_, (Below.refl _ _).alloc (Nat.le_refl _) _⟩
    all_goals first
      | (rw [chkO_bad (by dsimp only; omega)]; rfl)
      | (rw [chkO_ok (by dsimp only; omega) (by dsimp only; omega) (by dsimp only; omega) (by dsimp only; omega) (by dsimp only; omega) (.inr hv)]; rfl)
  | false =>
    go_enter Try.func79, Try.ntmps79
    go_wp2
    all_goals go_ret
    all_goals refine ⟨?_, (Below.refl _ _).alloc (Nat.le_refl _) _⟩
    all_goals first
      | (rw [chkO_bad (by dsimp only; omega)]; rfl)
      | (rw [chkO_bad (by dsimp only; exact .inr (.inr (.inr (.inr (.inr ⟨by omega, hv⟩)))))]; rfl)
      | (rw [chkO_ok (by dsimp only; omega) (by dsimp only; omega) (by dsimp only; omega) (by dsimp only; omega) (by dsimp only; omega) (.inl (by dsimp only; omega))]; rfl)
theorem bcheck1_any (k : Int) (u v : ByteArray) (w : World) : Calls Try.prog 78 #[.agg #[.int .i64 k, .string u, .string v]] w fun e w' => e = .returned (.bool (!okO ⟨k, u, v⟩)) ∧ Below w.heap.size w w' := by
  have hb := (Below.refl w.heap.size w).alloc (Nat.le_refl _) (.cells #[.int .i64 k, .string u, .string v] 40)
  have Hb := Lib.hid hb
  have hc := fun W => ocheck_any k u v W
  unfold chkO at hc
  cases ho : okO ⟨k, u, v⟩ with
  | true =>
    rw [ho] at hc
    have Hc := Lib.hid hc
    clear hc hb ho
    go_enter Try.func78, Try.ntmps78
    go_wp2_with fail
    refine (Hc.out _).mono ?_
    rintro e w2 ⟨rfl, hb2⟩
    go_wp2_with fail
    go_ret
    exact ⟨rfl, Hb.out.trans (hb2.mono Hb.out.size)⟩
  | false =>
    rw [ho] at hc
    have Hc := Lib.hid hc
    clear hc hb ho
    go_enter Try.func78, Try.ntmps78
    go_wp2_with fail
    refine (Hc.out _).mono ?_
    rintro e w2 ⟨rfl, hb2⟩
    go_wp2_with fail
    go_ret
    exact ⟨rfl, Hb.out.trans (hb2.mono Hb.out.size)⟩
theorem any_idx {l : List Bo} {p : Bo → Bool} : (l.any p = true ∧ ∃ i : Nat, idxO l p = i) ∨ (l.any p = false ∧ idxO l p = -1) := by
  unfold idxO
  cases h : l.findIdx? p with
  | none =>
    right
    refine ⟨?_, rfl⟩
    rw [List.any_eq_false]
    intro x hx
    rw [List.findIdx?_eq_none_iff.1 h x hx]; simp
  | some i =>
    left
    obtain ⟨h1, h2, -⟩ := List.findIdx?_eq_some_iff_getElem.1 h
    exact ⟨List.any_eq_true.2 ⟨_, List.getElem_mem h1, h2⟩, i, rfl⟩
theorem contains_any (v : Value) (l : List Bo) (w : World) (h : IsOs w v l) : Calls Try.prog 77 #[v, .func (.func 78) #[] #[]] w fun e w' => e = .returned (.bool (l.any fun x => !okO x)) ∧ Below w.heap.size w w' := by
  have hi := oindex0 78 (fun x => !okO x) v l w h (fun args W => by go_simp) (fun k u val W _ _ => bcheck1_any k u val W)
  have hl := h
  obtain ⟨a, c, rfl, -, -, -⟩ := hl
  rcases any_idx (l := l) (p := fun x => !okO x) with ⟨e1, i, e2⟩ | ⟨e1, e2⟩
  · rw [e2] at hi
    rw [e1]
    have Hi := Lib.hid hi
    have hi0 : decide ((i : Int) ≥ 0) = true := decide_eq_true (by omega)
    have hi1 : decide ((0 : Int) ≤ (i : Int)) = true := decide_eq_true (by omega)
    clear hi e1 e2 h
    go_enter Try.func77, Try.ntmps77
    go_wp2_with fail
    refine Hi.out.mono ?_
    rintro e w2 ⟨rfl, hb2⟩
    go_wp2_with fail
    go_ret
    exact ⟨rfl, hb2⟩
  · rw [e2] at hi
    rw [e1]
    have Hi := Lib.hid hi
    clear hi e1 e2 h
    go_enter Try.func77, Try.ntmps77
    go_wp2_with fail
    refine Hi.out.mono ?_
    rintro e w2 ⟨rfl, hb2⟩
    go_wp2_with fail
    go_ret
    exact ⟨rfl, hb2⟩
/-! ### batches -/
def okB (s : Int) (l : List Bo) : Bool := decide (1 ≤ l.length) && decide (l.length ≤ 64) && decide (0 ≤ s) && decide (s ≤ 1099511627776 - (l.length : Int)) && l.all okO
def chkB (s : Int) (l : List Bo) : Int := if okB s l then 0 else 100
theorem all_any (l : List Bo) : l.all okO = !l.any fun x => !okO x := by
  rw [List.not_any_eq_all_not]
  congr 1
  funext x
  simp
theorem chkB_bad {s : Int} {l : List Bo} {n : Nat} (hn : n = l.length) (h : n < 1 ∨ 64 < n ∨ s < 0 ∨ 1099511627776 - (n : Int) < s) : chkB s l = 100 := by
  unfold chkB
  have : okB s l = false := by
    cases hq : okB s l with
    | false => rfl
    | true =>
      exfalso
      unfold okB at hq
      simp only [Bool.and_eq_true, decide_eq_true_eq] at hq
      omega
  rw [this]; rfl
theorem chkB_rest {s : Int} {l : List Bo} {n : Nat} (hn : n = l.length) (h : ¬ (n < 1 ∨ 64 < n ∨ s < 0 ∨ 1099511627776 - (n : Int) < s)) : chkB s l = if (l.any fun x => !okO x) = true then 100 else 0 := by
  unfold chkB okB
  rw [all_any, decide_eq_true (by omega : 1 ≤ l.length), decide_eq_true (by omega : l.length ≤ 64), decide_eq_true (by omega : 0 ≤ s), decide_eq_true (by omega : s ≤ 1099511627776 - (l.length : Int))]
  cases l.any fun x => !okO x <;> rfl
theorem bcheck_any (s : Int) (v : Value) (l : List Bo) (w : World) (h : IsOs w v l) (hs : -9223372036854775808 ≤ s ∧ s ≤ 9223372036854775807) : Calls Try.prog 58 #[.agg #[.int .i64 s, v]] w fun e w' => e = .returned (.int .i64 (chkB s l)) ∧ Below w.heap.size w w' := by
  obtain ⟨a, c, rfl, -, -, -⟩ := id h
  have H := Lib.hid h
  have hm := h.at.2.2.1
  have hc := h.at.2.1
  obtain ⟨n, hn⟩ : ∃ n, n = l.length := ⟨_, rfl⟩
  rw [← hn] at H hc ⊢
  have Hn := Lib.hid hn
  have HB := Lib.hid (blk_of_alloc w (.cells #[.int .i64 s, .slice a n c] 100))
  have Hb := Lib.hid ((Below.refl w.heap.size w).alloc (Nat.le_refl _) (.cells #[.int .i64 s, .slice a n c] 100))
  have hw : IntKind.i64.wrap (1099511627776 - (n : Int)) = 1099511627776 - (n : Int) := IntWalk.i64_in _ (by omega)
  clear h hn
  by_cases hbad : n < 1 ∨ 64 < n ∨ s < 0 ∨ 1099511627776 - (n : Int) < s
  · have Hbad := Lib.hid (chkB_bad Hn.out hbad)
    go_enter Try.func58, Try.ntmps58
    go_wp2_with fail
    all_goals first
      | (exfalso; omega)
      | (go_ret; exact ⟨by first | (rw [Hbad.out]; rfl) | rw [Hbad.out], Hb.out⟩)
  · have Hrest := Lib.hid (chkB_rest Hn.out hbad)
    have Hcf := Lib.hid (contains_any (.slice a n c) l (w.alloc (.cells #[.int .i64 s, .slice a n c] 100)) (H.out.below Hb.out))
    go_enter Try.func58, Try.ntmps58
    go_wp2_with fail
    all_goals first
      | (exfalso; omega)
      | skip
    refine Hcf.out.mono ?_
    rintro e w2 ⟨rfl, hb2⟩
    have Hb2 := Lib.hid (Hb.out.trans (hb2.mono Hb.out.size))
    cases hq : l.any fun x => !okO x with
    | true =>
      go_wp2_with fail
      go_ret
      exact ⟨by rw [Hrest.out, hq]; rfl, Hb2.out⟩
    | false =>
      go_wp2_with fail
      go_ret
      exact ⟨by rw [Hrest.out, hq]; rfl, Hb2.out⟩
end Go.Proofs.Ytbnodgoccmhjkaa.Tithe
