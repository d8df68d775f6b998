/- Entries in memory: same, Clone, IndexFunc, Cut: walked. -/
import Derived.Test.YtkjfjcigmmooiaaEntCore
import Derived.Sort.LoopGhostIn
import Derived.Deep.RegionHeld3
namespace Go.Proofs.Ytkjfjcigmmooiaa.Tithe
open Go.RowKit Go.Sort
set_option linter.unusedVariables false
theorem en_one (x : En) : ∀ u ∈ x.cells, u.oneCell' = true := by
  intro u hu
  simp only [En.cells, List.mem_cons, List.not_mem_nil, or_false] at hu
  rcases hu with rfl | rfl | rfl | rfl <;> rfl
theorem ens_one (l : List En) : ∀ u ∈ flat En.cells l, u.oneCell' = true := by
  intro u hu
  simp only [flat, List.mem_flatMap] at hu
  obtain ⟨x, -, hx⟩ := hu
  exact en_one x u hx
theorem enInfo : (Try.prog.info? 30).map (fun i => (i.zero, i.size, i.bytes)) = some (some (.agg #[.string ⟨#[]⟩, .int .i64 0, .int .i64 0, .string ⟨#[]⟩]), 4, 48) := by kernel_rfl
theorem info_parts' {α β γ δ : Type} {f : α → Option β} {g : α → γ} {h : α → δ} {o : Option α} {b : Option β} {c : γ} {d : δ} (hh : o.map (fun i => (f i, g i, h i)) = some (b, c, d)) : ∃ i, o = some i ∧ f i = b ∧ g i = c ∧ h i = d := by
  cases o with
  | none => cases hh
  | some i => injection hh with e; injection e with e1 e2; injection e2 with e2 e3; exact ⟨i, rfl, e1, e2, e3⟩
theorem neq_en (u : ByteArray) (s k : Int) (v : ByteArray) (W : World) : (binOp .neq 30 (.agg #[.string u, .int .i64 s, .int .i64 k, .string v]) (.agg #[.string u, .int .i64 s, .int .i64 k, .string v])).run Try.prog W = .ok (.bool false) W := by
  go_simp
set_option maxHeartbeats 800000 in
theorem same_any (v v' : Value) (l : List En) (w : World) (h : IsEs w v l) (h' : IsEs w v' l) : Calls Try.prog 12 #[v, v'] w fun e w' => e = .returned (.bool true) ∧ ∃ n, w' = w.drewN n := by
  obtain ⟨a, c, rfl, -, -, -⟩ := id h
  obtain ⟨a', c', rfl, -, -, -⟩ := id h'
  obtain ⟨-, hc, hm, hx⟩ := h.at
  obtain ⟨-, hc', hm', hx'⟩ := h'.at
  have Hx := Lib.hid hx
  have Hx' := Lib.hid hx'
  clear h hx h' hx'
  obtain ⟨n, hn⟩ : ∃ n, n = l.length := ⟨_, rfl⟩
  rw [← hn] at Hx hc Hx' hc' ⊢
  have Hn := Lib.hid hn
  clear hn
  go_enter Try.func12, Try.ntmps12
  go_wp2
  go_loopw [13] (fun i wr => ∃ k : Nat, k ≤ n ∧ i = .int .i64 k ∧ ∃ d, wr = w.drewN d) (fun i _ => n - (intOf i).toNat)
  case atStart => exact ⟨0, Nat.zero_le _, rfl, 0, rfl⟩
  case round =>
    obtain ⟨k, hk, rfl, d, rfl⟩ := hrel
    by_cases hkn : k < n
    · obtain ⟨b, off, rfl, hcell⟩ := Hx.out (by omega)
      obtain ⟨b', off', rfl, hcell'⟩ := Hx'.out (by omega)
      obtain ⟨x, hxk⟩ : ∃ x, l[k]? = some x := ⟨_, List.getElem?_eq_getElem (by rw [← Hn.out]; exact hkn)⟩
      obtain ⟨c0, c1, c2, c3⟩ := IsEs.row hcell hxk
      obtain ⟨d0, d1, d2, d3⟩ := IsEs.row hcell' hxk
      clear hcell hcell' hxk
      obtain ⟨⟨u, s, kd⟩, val⟩ := x
      dsimp only at c0 c1 c2 c3 d0 d1 d2 d3
      have hne := fun W => neq_en u s kd val W
      go_wp2
      go_quiet (fail)
      go_wp2
      go_roundw
      case rel => exact ⟨k + 1, by omega, by go_num, _, rfl⟩
      case measure => simp [intOf]; omega
    · obtain rfl : k = n := by omega
      go_wp2
      go_ret
      exact ⟨rfl, _, rfl⟩
theorem ownsRow_empty (w : World) (t : TypeId) (size : Nat) : (w.alloc (.cells #[] t)).ownsRow w.heap.size t size (.slice (some ⟨w.heap.size, 0, none⟩) 0 0) 0 [] := by
  refine ⟨by simp, .inr ⟨w.heap.size, 0, #[], rfl, Nat.le_refl _, ?_, Nat.le_refl _, by decide, by simp, by simp⟩⟩
  show (w.heap.push _)[w.heap.size]? = _
  simp
set_option maxRecDepth 100000 in
set_option maxHeartbeats 800000 in
theorem eclone_any (v : Value) (l : List En) (w : World) (h : IsEs w v l) (hlen : l.length ≤ 1000000) : Calls Try.prog 30 #[v] w fun e w' => ∃ v', e = .returned v' ∧ w'.ownsRow w.heap.size 30 4 v' l.length (flat En.cells l) ∧ Below w.heap.size w w' := by
  obtain ⟨i0, hi0, hz0, hz1, hz2⟩ := info_parts' enInfo
  obtain ⟨a0, c, rfl, -, -, -⟩ := id h
  obtain ⟨n, hn0⟩ : ∃ n, n = l.length := ⟨_, rfl⟩
  cases a0 with
  | none =>
    have hs : ∀ w : World, (binOp .eql 22 (.slice none 0 c) (.slice none 0 0)).run Try.prog w = .ok (.bool true) w := fun _ => rfl
    have hl : l = [] := by
      obtain ⟨-, -, -, hx⟩ := h.at
      rcases Nat.eq_zero_or_pos l.length with q | q
      · exact List.eq_nil_of_length_eq_zero q
      · obtain ⟨_, _, e, _⟩ := hx q; cases e
    subst hl
    clear h hn0
    rw [List.length_nil]
    go_enter Try.func30, Try.ntmps30
    go_wp2
    go_ret
    exact ⟨_, rfl, World.ownsRow_nil _ _ _ _, Below.refl _ _⟩
  | some ad =>
    rw [← hn0] at h
    have hs : ∀ w : World, (binOp .eql 22 (.slice (some ad) n c) (.slice none 0 0)).run Try.prog w = .ok (.bool false) w := fun _ => rfl
    obtain ⟨hn, hc, hm, hx⟩ := h.at
    have hnews : ∀ (o : Obj) (j : Nat) (z : Value), (flat En.cells l)[j]? = some z → (w.alloc o).cell? (ad.add j) = some z := by
      intro o j z hj
      have hpos : 0 < n := by
        rcases Nat.eq_zero_or_pos n with q | q
        · exfalso
          obtain rfl : l = [] := List.eq_nil_of_length_eq_zero (by omega)
          simp [flat] at hj
        · exact q
      obtain ⟨b, off, e, -⟩ := hx hpos
      injection e with e
      subst e
      have := h.news en_len j z hj
      rw [World.cell?_alloc_lt w _ _ (block_lt_of_cell this)]; exact this
    have Hnews := Lib.hid hnews
    have Hl : Hid ((flat En.cells l).length = n * 4) := by rw [flat_length en_len, hn]; exact Lib.hid rfl
    have Hn := Lib.hid hn
    have hn1 : n ≤ 1000000 := by omega
    rw [← hn0]
    clear h hx hnews hn hn0
    go_enter Try.func30, Try.ntmps30
    go_wp2_with (first | (at_builtin; refine wpList_append_own _ rfl (.tmp 5) (.tmp 6) 22 rfl w.heap.size 30 i0 (.agg #[.string ⟨#[]⟩, .int .i64 0, .int .i64 0, .string ⟨#[]⟩]) 4 48 Try.underlying22 hi0 hz0 hz1 hz2 rfl (by decide) (.slice (some ⟨w.heap.size, 0, none⟩) 0 0) 0 [] rfl (ownsRow_empty w _ _) ad n c (flat En.cells l) rfl ?c1 ?c2 ?c3 ?c4 ?c5 ?c6 ?_))
    case c1 => exact Hl.out
    case c2 => exact Hnews.out _
    case c3 => exact ens_one l
    case c4 => unfold maxLen; omega
    case c5 => omega
    case c6 => first | omega | (simp; omega) | simp
    intro v' w1 hown' hgrow _
    have hg : Below w.heap.size w w1 := grow_own ((Below.refl _ _).alloc (Nat.le_refl _) _) (ownsRow_empty w 30 4) hgrow (Nat.le_refl _) (by simp)
    have Hown := Lib.hid hown'
    clear hown' hgrow
    go_wp2
    go_ret
    exact ⟨_, rfl, Hown.out, hg⟩
theorem gtr_cmpB (a b : ByteArray) : (!Op.bytesLess a.toList b.toList && !a.toList == b.toList) = decide (0 < cmpB a b) := by
  rw [less_cmpB, beq_cmpB]
  have := cmpB_range a b
  rcases (by omega : cmpB a b = -1 ∨ cmpB a b = 0 ∨ cmpB a b = 1) with e | e | e <;> rw [e] <;> rfl
/-- the first place -/
def idxI (l : List En) (p : En → Bool) : Int := match l.findIdx? p with | some i => i | none => -1
theorem idx_at {l : List En} {p : En → Bool} {k : Nat} {x : En} (h : ∀ j y, j < k → l[j]? = some y → p y = false) (hx : l[k]? = some x) (hp : p x = true) : l.findIdx? p = some k := by
  obtain ⟨hk, he⟩ := List.getElem?_eq_some_iff.1 hx
  rw [List.findIdx?_eq_some_iff_getElem]
  refine ⟨hk, by rw [he]; exact hp, fun j hj => ?_⟩
  rw [h j _ hj (List.getElem?_eq_getElem (by omega))]; simp
theorem idx_none {l : List En} {p : En → Bool} (h : ∀ j y, j < l.length → l[j]? = some y → p y = false) : l.findIdx? p = none := by
  rw [List.findIdx?_eq_none_iff]
  intro x hx
  obtain ⟨j, hj, rfl⟩ := List.mem_iff_getElem.1 hx
  exact h j _ hj (List.getElem?_eq_getElem hj)
set_option maxHeartbeats 800000 in
theorem index_any (pf : Nat) (cap : Value) (p : En → Bool) (v : Value) (l : List En) (w : World) (h : IsEs w v l)
    (hpf : ∀ (args : Array Value) (W : World), (callFunc pf args).run Try.prog W = .ok (.enter pf args) W)
    (hp : ∀ (u : ByteArray) (s k : Int) (val : ByteArray) (W : World), Below w.heap.size w W → Calls Try.prog pf #[.agg #[.string u, .int .i64 s, .int .i64 k, .string val], cap] W fun e W' => e = .returned (.bool (p ⟨⟨u, s, k⟩, val⟩)) ∧ Below W.heap.size W W') :
    Calls Try.prog 28 #[v, .func (.func pf) #[] #[cap]] w fun e w' => e = .returned (.int .i64 (idxI l p)) ∧ Below w.heap.size w w' := by
  obtain ⟨a, c, rfl, -, -, -⟩ := id h
  obtain ⟨-, hc, hm, hx⟩ := h.at
  have Hx := Lib.hid hx
  have Hp := Lib.hid hp
  clear h hx hp
  obtain ⟨n, hn⟩ : ∃ n, n = l.length := ⟨_, rfl⟩
  rw [← hn] at Hx hc ⊢
  have Hn := Lib.hid hn
  clear hn
  go_enter Try.func28, Try.ntmps28
  go_wp2
  go_loopw [8] (fun i wr => ∃ k : Nat, k ≤ n ∧ i = .int .i64 k ∧ (∀ j y, j < k → l[j]? = some y → p y = false) ∧ Below w.heap.size w wr) (fun i _ => n - (intOf i).toNat)
  case atStart => exact ⟨0, Nat.zero_le _, rfl, by omega, Below.refl _ _⟩
  case round =>
    obtain ⟨wo, rfl⟩ : ∃ wo : World, wo = wr := ⟨_, rfl⟩
    obtain ⟨k, hk, rfl, hr, hb⟩ := hrel
    have Hr := Lib.hid hr
    have Hb := Lib.hid hb
    clear hr hb
    by_cases hkn : k < n
    · obtain ⟨b, off, rfl, hcell⟩ := Hx.out (by omega)
      obtain ⟨x, hxk⟩ : ∃ x, l[k]? = some x := ⟨_, List.getElem?_eq_getElem (by rw [← Hn.out]; exact hkn)⟩
      obtain ⟨c0, c1, c2, c3⟩ := IsEs.row hcell hxk
      have d0 := (Hb.out.cell (block_lt_of_cell c0)).trans c0
      have d1 := (Hb.out.cell (block_lt_of_cell c1)).trans c1
      have d2 := (Hb.out.cell (block_lt_of_cell c2)).trans c2
      have d3 := (Hb.out.cell (block_lt_of_cell c3)).trans c3
      have Hxk := Lib.hid hxk
      clear hxk c0 c1 c2 c3 hcell
      obtain ⟨⟨u, s, kd⟩, val⟩ := x
      dsimp only at d0 d1 d2 d3
      have hpk := Lib.hid (Hp.out u s kd val wo Hb.out)
      cases hpx : p ⟨⟨u, s, kd⟩, val⟩ with
      | true =>
        have hpk2 := hpk.out
        rw [hpx] at hpk2
        have Hpk := Lib.hid hpk2
        have Hidx := Lib.hid (idx_at Hr.out Hxk.out hpx)
        clear hpk hpk2 hpx
        go_wp2_with fail
        refine Hpk.out.mono ?_
        rintro e w2 ⟨rfl, hb2⟩
        go_wp2
        go_ret
        exact ⟨by unfold idxI; rw [Hidx.out]; rfl, Hb.out.trans (hb2.mono Hb.out.size)⟩
      | false =>
        have hpk2 := hpk.out
        rw [hpx] at hpk2
        have Hpk := Lib.hid hpk2
        have Hpx := Lib.hid hpx
        clear hpk hpk2 hpx
        go_wp2_with fail
        refine Hpk.out.mono ?_
        rintro e w2 ⟨rfl, hb2⟩
        have Hb2 := Lib.hid (Hb.out.trans (hb2.mono Hb.out.size))
        clear hb2
        go_wp2
        go_roundw
        case rel =>
          refine ⟨k + 1, by omega, by go_num, fun j y hj hy => ?_, Hb2.out⟩
          by_cases e : j = k
          · subst e
            have := Hxk.out.symm.trans hy
            injection this with this
            rw [← this]; exact Hpx.out
          · exact Hr.out j y (by omega) hy
        case measure => simp [intOf]; omega
    · obtain rfl : k = n := by omega
      have Hidx := Lib.hid (idx_none (l := l) (p := p) (by rw [← Hn.out]; exact Hr.out))
      go_wp2
      go_ret
      exact ⟨by unfold idxI; rw [Hidx.out]; rfl, Hb.out⟩
theorem cutp_any (u : ByteArray) (s k : Int) (val : ByteArray) (cb : Nat) (upto : ByteArray) (W : World) (hc : W.cell? ⟨cb, 0, none⟩ = some (.string upto)) :
    Calls Try.prog 29 #[.agg #[.string u, .int .i64 s, .int .i64 k, .string val], .pointer (some ⟨cb, 0, none⟩)] W fun e W' => e = .returned (.bool (decide (0 < cmpB u upto))) ∧ Below W.heap.size W W' := by
  have hlt := block_lt_of_cell hc
  have hx : ∀ o, (W.alloc o).cell? ⟨cb, 0, none⟩ = some (.string upto) := fun o => by rw [World.cell?_alloc_lt W _ _ hlt]; exact hc
  have hl := Lib.hid (gtr_cmpB u upto)
  clear hc hlt
  go_enter Try.func29, Try.ntmps29
  go_wp2
  go_ret
  exact ⟨by rw [← hl.out]; rfl, (Below.refl _ _).alloc (Nat.le_refl _) _⟩
def dropA (a : Option Addr) (c N sz : Nat) : Option Addr := if c = N then a else a.map (·.add (N * sz))
theorem isSl_dropV {α : Type} {enc : α → List Value} {sz : Nat} {w : World} {a : Option Addr} {n c : Nat} {l : List α} (h : IsSl enc sz w (.slice a n c) l) (N : Nat) (hN : N ≤ n) : IsSl enc sz w (.slice (dropA a c N sz) (n - N) (c - N)) (l.drop N) := by
  obtain ⟨hn, hc, hm, hx⟩ := h.at
  by_cases q : n = N
  · subst q
    rw [List.drop_of_length_le (by omega), Nat.sub_self]
    exact isSl_nil _ _ _ _ _ (by unfold maxLen; omega)
  · obtain ⟨b, off, rfl, -⟩ := hx (by omega)
    have e : dropA (some ⟨b, off, none⟩) c N sz = some ⟨b, off + N * sz, none⟩ := by
      unfold dropA
      rw [if_neg (by omega)]
      simp [plain_add']
    rw [e]
    exact h.drop N hN _ rfl
/-- where Cut parts -/
def cutN (l : List En) (upto : ByteArray) : Nat := if cmpB upto ⟨#[]⟩ = 0 then l.length else match l.findIdx? (fun x => decide (0 < cmpB x.key.u upto)) with | some i => i | none => l.length
set_option maxHeartbeats 800000 in
theorem cut_any (v : Value) (l : List En) (upto : ByteArray) (w : World) (h : IsEs w v l) (hlen : l.length ≤ 1000000) :
    Calls Try.prog 10 #[v, .string upto] w fun e w' => ∃ v1 v2, e = .returned (.tuple #[v1, v2]) ∧ w'.ownsRow w.heap.size 30 4 v1 (l.take (cutN l upto)).length (flat En.cells (l.take (cutN l upto))) ∧ w'.ownsRow w.heap.size 30 4 v2 (l.drop (cutN l upto)).length (flat En.cells (l.drop (cutN l upto))) ∧ Below w.heap.size w w' := by
  have hb0 : Below w.heap.size w (w.alloc (.cells #[.string upto] 9)) := (Below.refl _ _).alloc (Nat.le_refl _) _
  have hidx := index_any 29 (.pointer (some ⟨w.heap.size, 0, none⟩)) (fun x => decide (0 < cmpB x.key.u upto)) v l (w.alloc (.cells #[.string upto] 9)) (h.below hb0) (fun args W => by go_simp) (fun u s k val W hW => cutp_any u s k val w.heap.size upto W (by
    have h0 : (w.alloc (.cells #[.string upto] 9)).cell? ⟨w.heap.size, 0, none⟩ = some (.string upto) := by rw [World.cell?_alloc_mark]; rfl
    exact (hW.cell (block_lt_of_cell h0)).trans h0))
  obtain ⟨a, c, rfl, -, -, -⟩ := id h
  obtain ⟨-, hc, hm, hx⟩ := h.at
  have H := Lib.hid h
  have Hidx := Lib.hid hidx
  clear h hx hidx
  have HN : Hid (cutN l upto ≤ l.length) := by
    unfold cutN
    split
    · exact Lib.hid (Nat.le_refl _)
    · split
      · rename_i i hi
        have := (List.findIdx?_eq_some_iff_getElem.1 hi).1
        exact Lib.hid (by omega)
      · exact Lib.hid (Nat.le_refl _)
  by_cases he : cmpB upto ⟨#[]⟩ = 0
  · have hie : upto.toList.isEmpty = true := by rw [(cmpB_zero _ _).1 he, toList_eq]; rfl
    have hcn : Hid (cutN l upto = l.length) := by unfold cutN; rw [if_pos he]; exact Lib.hid rfl
    clear he
    rw [hcn.out]
    go_enter Try.func10, Try.ntmps10
    go_wp2_with fail
    have HN2 : Hid (l.length ≤ l.length) := Lib.hid (Nat.le_refl _)
    have hcl1 := fun (W : World) (hW : Below w.heap.size w W) => eclone_any _ _ W ((H.out.take (l.length) HN2.out).below hW) (by rw [List.length_take]; omega)
    have hcl2 := fun (W : World) (hW : Below w.heap.size w W) => eclone_any _ _ W ((isSl_dropV H.out (l.length) HN2.out).below hW) (by rw [List.length_drop]; omega)
    have hl1 : (l.take (l.length)).length = l.length := by rw [List.length_take]; have := HN2.out; omega
    have hl2 : (l.drop (l.length)).length = l.length - (l.length) := List.length_drop
    rw [hl1] at hcl1
    rw [hl2] at hcl2
    try rw [Nat.sub_self] at hcl2
    have Hl1 := Lib.hid hl1
    have Hl2 := Lib.hid hl2
    clear hl1 hl2
    have hbd : Below w.heap.size w (w.alloc (.cells #[.string upto] 9)).drew := (hb0).drew
    have Hcl1 := Lib.hid hcl1
    have Hcl2 := Lib.hid hcl2
    have Hbd := Lib.hid hbd
    have hNl := HN2.out
    have hNc : (l.length) ≤ c := by omega
    clear hcl1 hcl2 hbd
    by_cases hcN : c = l.length
    · have hcl2 := Hcl2.out
      rw [dropA, if_pos hcN] at hcl2
      clear Hcl2
      have hcl : c = l.length := by omega
      subst hcl
      try subst hcN
      simp only [Nat.sub_self] at hcl2
      have Hcl2 := Lib.hid hcl2
      clear hcl2
      first | (go_region_held3 (fun w' => True) (exact trivial)
        ((first
          | (go_at_call 30; (with_reducible refine (Hcl1.out _ Hbd.out).mono ?_); rintro e w3 ⟨v1, rfl, ho1, hb3⟩; obtain ⟨a3, c3, rfl⟩ := own_slice ho1; have Ho1 := Lib.hid ho1; have Hb3 := Lib.hid (Hbd.out.trans (hb3.mono Hbd.out.size)); clear ho1 hb3)
          | (go_at_call 30; (with_reducible refine (Hcl2.out _ Hb3.out).mono ?_); rintro e w4 ⟨v2, rfl, ho2, hb4⟩; obtain ⟨a4, c4, rfl⟩ := own_slice ho2; have Ho2 := Lib.hid ho2; have Hb4 := Lib.hid hb4; clear ho2 hb4)))) | fail
      all_goals go_wp2
      all_goals go_ret2
      all_goals exact ⟨_, _, rfl, (by rw [Hl1.out]; exact own_mono (own_below Ho1.out Hb4.out) Hbd.out.size), (by rw [Hl2.out]; first | exact own_mono Ho2.out Hb3.out.size | (rw [Nat.sub_self]; exact own_mono Ho2.out Hb3.out.size)), Hb3.out.trans (Hb4.out.mono Hb3.out.size)⟩
    · have hcl2 := Hcl2.out
      rw [dropA, if_neg hcN] at hcl2
      have Hcl2 := Lib.hid hcl2
      clear hcl2
      first | (go_region_held3 (fun w' => True) (exact trivial)
        ((first
          | (go_at_call 30; (with_reducible refine (Hcl1.out _ Hbd.out).mono ?_); rintro e w3 ⟨v1, rfl, ho1, hb3⟩; obtain ⟨a3, c3, rfl⟩ := own_slice ho1; have Ho1 := Lib.hid ho1; have Hb3 := Lib.hid (Hbd.out.trans (hb3.mono Hbd.out.size)); clear ho1 hb3)
          | (go_at_call 30; (with_reducible refine (Hcl2.out _ Hb3.out).mono ?_); rintro e w4 ⟨v2, rfl, ho2, hb4⟩; obtain ⟨a4, c4, rfl⟩ := own_slice ho2; have Ho2 := Lib.hid ho2; have Hb4 := Lib.hid hb4; clear ho2 hb4)))) | fail
      all_goals go_wp2
      all_goals go_ret2
      all_goals exact ⟨_, _, rfl, (by rw [Hl1.out]; exact own_mono (own_below Ho1.out Hb4.out) Hbd.out.size), (by rw [Hl2.out]; first | exact own_mono Ho2.out Hb3.out.size | (rw [Nat.sub_self]; exact own_mono Ho2.out Hb3.out.size)), Hb3.out.trans (Hb4.out.mono Hb3.out.size)⟩
  · have hie : upto.toList.isEmpty = false := by
      cases hq : upto.toList.isEmpty with
      | false => rfl
      | true =>
        exfalso; apply he; rw [cmpB_zero]; apply ba_ext
        rw [List.isEmpty_iff] at hq
        rw [← toList_eq, hq]
    have He := Lib.hid he
    clear he
    cases hf : l.findIdx? (fun x => decide (0 < cmpB x.key.u upto)) with
    | none =>
      have hix := Hidx.out
      have hI : idxI l (fun x => decide (0 < cmpB x.key.u upto)) = -1 := by unfold idxI; rw [hf]
      rw [hI] at hix
      have Hix := Lib.hid hix
      have hcn : Hid (cutN l upto = l.length) := by unfold cutN; rw [if_neg He.out, hf]; exact Lib.hid rfl
      clear hI hix hf
      rw [hcn.out]
      go_enter Try.func10, Try.ntmps10
      go_wp2_with fail
      refine Hix.out.mono ?_
      rintro e w2 ⟨rfl, hb2⟩
      have HN2 : Hid (l.length ≤ l.length) := Lib.hid (Nat.le_refl _)
      go_wp2_with fail
      have hcl1 := fun (W : World) (hW : Below w.heap.size w W) => eclone_any _ _ W ((H.out.take (l.length) HN2.out).below hW) (by rw [List.length_take]; omega)
      have hcl2 := fun (W : World) (hW : Below w.heap.size w W) => eclone_any _ _ W ((isSl_dropV H.out (l.length) HN2.out).below hW) (by rw [List.length_drop]; omega)
      have hl1 : (l.take (l.length)).length = l.length := by rw [List.length_take]; have := HN2.out; omega
      have hl2 : (l.drop (l.length)).length = l.length - (l.length) := List.length_drop
      rw [hl1] at hcl1
      rw [hl2] at hcl2
      try rw [Nat.sub_self] at hcl2
      have Hl1 := Lib.hid hl1
      have Hl2 := Lib.hid hl2
      clear hl1 hl2
      have hbd : Below w.heap.size w (w2).drew := (hb0.trans (hb2.mono hb0.size)).drew
      have Hcl1 := Lib.hid hcl1
      have Hcl2 := Lib.hid hcl2
      have Hbd := Lib.hid hbd
      have hNl := HN2.out
      have hNc : (l.length) ≤ c := by omega
      clear hcl1 hcl2 hbd
      by_cases hcN : c = l.length
      · have hcl2 := Hcl2.out
        rw [dropA, if_pos hcN] at hcl2
        clear Hcl2
        have hcl : c = l.length := by omega
        subst hcl
        try subst hcN
        simp only [Nat.sub_self] at hcl2
        have Hcl2 := Lib.hid hcl2
        clear hcl2
        first | (go_region_held3 (fun w' => True) (exact trivial)
          ((first
            | (go_at_call 30; (with_reducible refine (Hcl1.out _ Hbd.out).mono ?_); rintro e w3 ⟨v1, rfl, ho1, hb3⟩; obtain ⟨a3, c3, rfl⟩ := own_slice ho1; have Ho1 := Lib.hid ho1; have Hb3 := Lib.hid (Hbd.out.trans (hb3.mono Hbd.out.size)); clear ho1 hb3)
            | (go_at_call 30; (with_reducible refine (Hcl2.out _ Hb3.out).mono ?_); rintro e w4 ⟨v2, rfl, ho2, hb4⟩; obtain ⟨a4, c4, rfl⟩ := own_slice ho2; have Ho2 := Lib.hid ho2; have Hb4 := Lib.hid hb4; clear ho2 hb4)))) | fail
        all_goals go_wp2
        all_goals go_ret2
        all_goals exact ⟨_, _, rfl, (by rw [Hl1.out]; exact own_mono (own_below Ho1.out Hb4.out) Hbd.out.size), (by rw [Hl2.out]; first | exact own_mono Ho2.out Hb3.out.size | (rw [Nat.sub_self]; exact own_mono Ho2.out Hb3.out.size)), Hb3.out.trans (Hb4.out.mono Hb3.out.size)⟩
      · have hcl2 := Hcl2.out
        rw [dropA, if_neg hcN] at hcl2
        have Hcl2 := Lib.hid hcl2
        clear hcl2
        first | (go_region_held3 (fun w' => True) (exact trivial)
          ((first
            | (go_at_call 30; (with_reducible refine (Hcl1.out _ Hbd.out).mono ?_); rintro e w3 ⟨v1, rfl, ho1, hb3⟩; obtain ⟨a3, c3, rfl⟩ := own_slice ho1; have Ho1 := Lib.hid ho1; have Hb3 := Lib.hid (Hbd.out.trans (hb3.mono Hbd.out.size)); clear ho1 hb3)
            | (go_at_call 30; (with_reducible refine (Hcl2.out _ Hb3.out).mono ?_); rintro e w4 ⟨v2, rfl, ho2, hb4⟩; obtain ⟨a4, c4, rfl⟩ := own_slice ho2; have Ho2 := Lib.hid ho2; have Hb4 := Lib.hid hb4; clear ho2 hb4)))) | fail
        all_goals go_wp2
        all_goals go_ret2
        all_goals exact ⟨_, _, rfl, (by rw [Hl1.out]; exact own_mono (own_below Ho1.out Hb4.out) Hbd.out.size), (by rw [Hl2.out]; first | exact own_mono Ho2.out Hb3.out.size | (rw [Nat.sub_self]; exact own_mono Ho2.out Hb3.out.size)), Hb3.out.trans (Hb4.out.mono Hb3.out.size)⟩
    | some i =>
      have hix := Hidx.out
      have hI : idxI l (fun x => decide (0 < cmpB x.key.u upto)) = (i : Int) := by unfold idxI; rw [hf]
      rw [hI] at hix
      have Hix := Lib.hid hix
      have hcn : Hid (cutN l upto = i) := by unfold cutN; rw [if_neg He.out, hf]; exact Lib.hid rfl
      have hil : i ≤ l.length := by have := (List.findIdx?_eq_some_iff_getElem.1 hf).1; omega
      clear hI hix hf
      rw [hcn.out]
      go_enter Try.func10, Try.ntmps10
      go_wp2_with fail
      refine Hix.out.mono ?_
      rintro e w2 ⟨rfl, hb2⟩
      have HN2 := Lib.hid hil
      go_wp2_with fail
      have hcl1 := fun (W : World) (hW : Below w.heap.size w W) => eclone_any _ _ W ((H.out.take (i) HN2.out).below hW) (by rw [List.length_take]; omega)
      have hcl2 := fun (W : World) (hW : Below w.heap.size w W) => eclone_any _ _ W ((isSl_dropV H.out (i) HN2.out).below hW) (by rw [List.length_drop]; omega)
      have hl1 : (l.take (i)).length = i := by rw [List.length_take]; have := HN2.out; omega
      have hl2 : (l.drop (i)).length = l.length - (i) := List.length_drop
      rw [hl1] at hcl1
      rw [hl2] at hcl2
      try rw [Nat.sub_self] at hcl2
      have Hl1 := Lib.hid hl1
      have Hl2 := Lib.hid hl2
      clear hl1 hl2
      have hbd : Below w.heap.size w (w2).drew := (hb0.trans (hb2.mono hb0.size)).drew
      have Hcl1 := Lib.hid hcl1
      have Hcl2 := Lib.hid hcl2
      have Hbd := Lib.hid hbd
      have hNl := HN2.out
      have hNc : (i) ≤ c := by omega
      clear hcl1 hcl2 hbd
      by_cases hcN : c = i
      · have hcl2 := Hcl2.out
        rw [dropA, if_pos hcN] at hcl2
        clear Hcl2
        have hcl : c = l.length := by omega
        subst hcl
        try subst hcN
        simp only [Nat.sub_self] at hcl2
        have Hcl2 := Lib.hid hcl2
        clear hcl2
        first | (go_region_held3 (fun w' => True) (exact trivial)
          ((first
            | (go_at_call 30; (with_reducible refine (Hcl1.out _ Hbd.out).mono ?_); rintro e w3 ⟨v1, rfl, ho1, hb3⟩; obtain ⟨a3, c3, rfl⟩ := own_slice ho1; have Ho1 := Lib.hid ho1; have Hb3 := Lib.hid (Hbd.out.trans (hb3.mono Hbd.out.size)); clear ho1 hb3)
            | (go_at_call 30; (with_reducible refine (Hcl2.out _ Hb3.out).mono ?_); rintro e w4 ⟨v2, rfl, ho2, hb4⟩; obtain ⟨a4, c4, rfl⟩ := own_slice ho2; have Ho2 := Lib.hid ho2; have Hb4 := Lib.hid hb4; clear ho2 hb4)))) | fail
        all_goals go_wp2
        all_goals go_ret2
        all_goals exact ⟨_, _, rfl, (by rw [Hl1.out]; exact own_mono (own_below Ho1.out Hb4.out) Hbd.out.size), (by rw [Hl2.out]; first | exact own_mono Ho2.out Hb3.out.size | (rw [Nat.sub_self]; exact own_mono Ho2.out Hb3.out.size)), Hb3.out.trans (Hb4.out.mono Hb3.out.size)⟩
      · have hcl2 := Hcl2.out
        rw [dropA, if_neg hcN] at hcl2
        have Hcl2 := Lib.hid hcl2
        clear hcl2
        first | (go_region_held3 (fun w' => True) (exact trivial)
          ((first
            | (go_at_call 30; (with_reducible refine (Hcl1.out _ Hbd.out).mono ?_); rintro e w3 ⟨v1, rfl, ho1, hb3⟩; obtain ⟨a3, c3, rfl⟩ := own_slice ho1; have Ho1 := Lib.hid ho1; have Hb3 := Lib.hid (Hbd.out.trans (hb3.mono Hbd.out.size)); clear ho1 hb3)
            | (go_at_call 30; (with_reducible refine (Hcl2.out _ Hb3.out).mono ?_); rintro e w4 ⟨v2, rfl, ho2, hb4⟩; obtain ⟨a4, c4, rfl⟩ := own_slice ho2; have Ho2 := Lib.hid ho2; have Hb4 := Lib.hid hb4; clear ho2 hb4)))) | fail
        all_goals go_wp2
        all_goals go_ret2
        all_goals exact ⟨_, _, rfl, (by rw [Hl1.out]; exact own_mono (own_below Ho1.out Hb4.out) Hbd.out.size), (by rw [Hl2.out]; first | exact own_mono Ho2.out Hb3.out.size | (rw [Nat.sub_self]; exact own_mono Ho2.out Hb3.out.size)), Hb3.out.trans (Hb4.out.mono Hb3.out.size)⟩
end Go.Proofs.Ytkjfjcigmmooiaa.Tithe
