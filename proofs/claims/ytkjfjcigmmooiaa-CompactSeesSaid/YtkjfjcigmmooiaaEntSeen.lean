/- Of a key's entries those that some numbers see: walked. -/
import Derived.Test.YtkjfjcigmmooiaaEntCut
namespace Go.Proofs.Ytkjfjcigmmooiaa.Tithe
open Go.RowKit Go.Sort
set_option linter.unusedVariables false
def intC (z : Int) : List Value := [.int .i64 z]
theorem intC_len (z : Int) : (intC z).length = 1 := rfl
abbrev IsZs (w : World) (v : Value) (l : List Int) : Prop := IsSl intC 1 w v l
theorem sees_any (u : ByteArray) (s k z : Int) (w : World) : Calls Try.prog 69 #[.agg #[.string u, .int .i64 s, .int .i64 k], .int .i64 z] w fun e w' => e = .returned (.bool (decide (s ≤ z))) ∧ Below w.heap.size w w' := by
  go_enter Try.func69, Try.ntmps69
  go_wp2
  go_ret
  exact ⟨rfl, (Below.refl _ _).alloc (Nat.le_refl _) _⟩
/-- the entry at a place is seen by a number, and the one ahead of it is not -/
def sAt (g : List En) (k : Nat) (z : Int) : Bool := decide ((g.getD k En.nil).key.s ≤ z) && !decide ((g.getD (k - 1) En.nil).key.s ≤ z)
def seenAt (g : List En) (zs : List Int) (k : Nat) : Bool := decide (k = 0) || zs.any (sAt g k)
def seenTo (g : List En) (zs : List Int) : Nat → List En
  | 0 => []
  | k + 1 => if seenAt g zs k then seenTo g zs k ++ [g.getD k En.nil] else seenTo g zs k
theorem seenTo_le (g : List En) (zs : List Int) : ∀ k, (seenTo g zs k).length ≤ k
  | 0 => Nat.le_refl _
  | k + 1 => by
    have := seenTo_le g zs k
    unfold seenTo
    split
    · simp; omega
    · omega
theorem any_step {zs : List Int} {p : Int → Bool} {j : Nat} {z : Int} (h : zs[j]? = some z) : (zs.take (j + 1)).any p = ((zs.take j).any p || p z) := by
  rw [List.take_add_one, h, List.any_append]; simp
set_option maxHeartbeats 1600000 in
set_option maxRecDepth 100000 in
theorem seen_any (v vz : Value) (g : List En) (zs : List Int) (w : World) (h : IsEs w v g) (hz : IsZs w vz zs) (hg : g.length ≤ 100000) :
    Calls Try.prog 42 #[v, vz] w fun e w' => ∃ v', e = .returned v' ∧ w'.ownsRow w.heap.size 30 4 v' (seenTo g zs g.length).length (flat En.cells (seenTo g zs g.length)) ∧ Below w.heap.size w w' := by
  obtain ⟨i0, hi0, hz0, hz1, hz2⟩ := info_parts' enInfo
  obtain ⟨a, c, rfl, -, -, -⟩ := id h
  obtain ⟨az, cz, rfl, -, -, -⟩ := id hz
  obtain ⟨-, hc, hm, hx⟩ := h.at
  obtain ⟨-, hcz, hmz, hxz⟩ := hz.at
  have Hx := Lib.hid hx
  have Hxz := Lib.hid hxz
  clear h hx hz hxz
  obtain ⟨n, hn⟩ : ∃ n, n = g.length := ⟨_, rfl⟩
  rw [← hn] at Hx hc hg ⊢
  have Hn := Lib.hid hn
  obtain ⟨m, hm2⟩ : ∃ m, m = zs.length := ⟨_, rfl⟩
  rw [← hm2] at Hxz hcz ⊢
  have Hm := Lib.hid hm2
  have Hi0 := Lib.hid hi0
  have Hz0 := Lib.hid hz0
  have Hz1 := Lib.hid hz1
  have Hz2 := Lib.hid hz2
  clear hn hm2 hi0 hz0 hz1 hz2
  go_enter Try.func42, Try.ntmps42
  go_wp2
  go_loopw [5, 13] (fun out i wr => ∃ k : Nat, k ≤ n ∧ i = .int .i64 k ∧ wr.ownsRow w.heap.size 30 4 out (seenTo g zs k).length (flat En.cells (seenTo g zs k)) ∧ Below w.heap.size w wr) (fun _ i _ => n - (intOf i).toNat)
  case atStart => exact ⟨0, Nat.zero_le _, rfl, World.ownsRow_nil _ _ _ _, Below.refl _ _⟩
  case round =>
    obtain ⟨wo, rfl⟩ : ∃ wo : World, wo = wr := ⟨_, rfl⟩
    obtain ⟨k, hk, rfl, hown, hb⟩ := hrel
    obtain ⟨oa, oc, rfl⟩ := own_slice hown
    have Hb := Lib.hid hb
    have hws := hb.size
    have Hown := Lib.hid hown
    clear hb hown
    by_cases hkn : k < n
    · obtain ⟨b, off, rfl, hcell⟩ := Hx.out (by omega)
      obtain ⟨x, hxk⟩ : ∃ x, g[k]? = some x := ⟨_, List.getElem?_eq_getElem (by rw [← Hn.out]; exact hkn)⟩
      obtain ⟨c0, c1, c2, c3⟩ := IsEs.row hcell hxk
      have d0 := (Hb.out.cell (block_lt_of_cell c0)).trans c0
      have d1 := (Hb.out.cell (block_lt_of_cell c1)).trans c1
      have d2 := (Hb.out.cell (block_lt_of_cell c2)).trans c2
      have d3 := (Hb.out.cell (block_lt_of_cell c3)).trans c3
      have hgk : g.getD k En.nil = x := by rw [List.getD_eq_getElem?_getD, hxk]; rfl
      have Hgk := Lib.hid hgk
      have hcell := Lib.hid hcell
      clear hxk c0 c1 c2 c3 hgk
      obtain ⟨⟨u, s, kd⟩, val⟩ := x
      dsimp only at d0 d1 d2 d3
      have e0 : (wo.alloc (.cells #[.string u, .int .i64 s, .int .i64 kd, .string val] 30)).cell? ⟨wo.heap.size, 0, none⟩ = some (.string u) := by rw [World.cell?_alloc_mark]; rfl
      have e1 : (wo.alloc (.cells #[.string u, .int .i64 s, .int .i64 kd, .string val] 30)).cell? ⟨wo.heap.size, 1, none⟩ = some (.int .i64 s) := by rw [World.cell?_alloc_mark]; rfl
      have e2 : (wo.alloc (.cells #[.string u, .int .i64 s, .int .i64 kd, .string val] 30)).cell? ⟨wo.heap.size, 2, none⟩ = some (.int .i64 kd) := by rw [World.cell?_alloc_mark]; rfl
      have e3 : (wo.alloc (.cells #[.string u, .int .i64 s, .int .i64 kd, .string val] 30)).cell? ⟨wo.heap.size, 3, none⟩ = some (.string val) := by rw [World.cell?_alloc_mark]; rfl
      have hbW : Below w.heap.size w (wo.alloc (.cells #[.string u, .int .i64 s, .int .i64 kd, .string val] 30)) := Hb.out.alloc hws _
      have hoW := Hown.out.alloc (.cells #[.string u, .int .i64 s, .int .i64 kd, .string val] 30)
      have HbW := Lib.hid hbW
      have HoW := Lib.hid hoW
      have E0 := Lib.hid e0
      have E1 := Lib.hid e1
      have E2 := Lib.hid e2
      have E3 := Lib.hid e3
      clear e0 e1 e2 e3 hbW hoW
      go_wp2
      generalize wo.alloc (.cells #[.string u, .int .i64 s, .int .i64 kd, .string val] 30) = W at *
      obtain ⟨sj, hsj⟩ : ∃ sj : Nat → Bool, sj = fun j => decide (k = 0) || (zs.take j).any (sAt g k) := ⟨_, rfl⟩
      have Sj0 : Hid (sj 0 = ((k : Int) == 0)) := by
        rw [hsj]
        by_cases q : k = 0
        · subst q; exact Lib.hid rfl
        · have : ((k : Int) == 0) = false := by rw [beq_eq_false_iff_ne]; omega
          rw [this]; exact Lib.hid (by simp [q])
      have Sjs : Hid (∀ j z, zs[j]? = some z → sj (j + 1) = (sj j || sAt g k z)) := by
        intro j z hz; rw [hsj]; simp only; rw [any_step hz, Bool.or_assoc]
      have Sjm : Hid (sj m = seenAt g zs k) := by
        rw [hsj]; simp only; rw [Hm.out, List.take_length]; exact Lib.hid rfl
      have Sk0 : Hid (∀ j, sj j = false → k ≠ 0) := by
        intro j hj q; rw [hsj] at hj; simp [q] at hj
      clear hsj
      go_loopw [8, 22] (fun okv t wr2 => ∃ j : Nat, j ≤ m ∧ t = .int .i64 j ∧ okv = .bool (sj j) ∧ Below W.heap.size W wr2) (fun _ t _ => m - (intOf t).toNat)
      case atStart => exact ⟨0, Nat.zero_le _, rfl, by rw [Sj0.out], Below.refl _ _⟩
      case round =>
        obtain ⟨w3, rfl⟩ : ∃ w3 : World, w3 = wr := ⟨_, rfl⟩
        obtain ⟨j, hj, rfl, rfl, hb3⟩ := hrel
        have Hb3 := Lib.hid hb3
        clear hb3
        by_cases hjm : j < m
        · obtain ⟨bz, oz, rfl, hzc⟩ := Hxz.out (by omega)
          obtain ⟨z, hzj⟩ : ∃ z, zs[j]? = some z := ⟨_, List.getElem?_eq_getElem (by rw [← Hm.out]; exact hjm)⟩
          have q0 := hzc j z hzj 0 _ rfl
          rw [Nat.mul_one, Nat.add_zero] at q0
          have z0 := (Hb3.out.cell (block_lt_of_cell ((HbW.out.cell (block_lt_of_cell q0)).trans q0))).trans ((HbW.out.cell (block_lt_of_cell q0)).trans q0)
          have f0 := (Hb3.out.cell (block_lt_of_cell E0.out)).trans E0.out
          have f1 := (Hb3.out.cell (block_lt_of_cell E1.out)).trans E1.out
          have f2 := (Hb3.out.cell (block_lt_of_cell E2.out)).trans E2.out
          have hst := Sjs.out j z hzj
          clear hzc hzj q0
          cases hsv : sj j with
          | true =>
            rw [hsv, Bool.true_or] at hst
            have Hst := Lib.hid hst
            clear hst hsv
            go_wp2
            go_roundw
            case rel => exact ⟨j + 1, by omega, by go_num, by rw [Hst.out], Hb3.out⟩
            case measure => simp [intOf]; omega
          | false =>
            have hk0 := Sk0.out j hsv
            rw [hsv, Bool.false_or] at hst
            obtain ⟨t, hkt⟩ : ∃ t, k = t + 1 := ⟨k - 1, by omega⟩
            obtain ⟨y, hyk⟩ : ∃ y, g[t]? = some y := ⟨_, List.getElem?_eq_getElem (by rw [← Hn.out]; omega)⟩
            obtain ⟨c0, c1, c2, -⟩ := IsEs.row hcell.out hyk
            have g0 := (HbW.out.cell (block_lt_of_cell c0)).trans c0
            have g1 := (HbW.out.cell (block_lt_of_cell c1)).trans c1
            have g2 := (HbW.out.cell (block_lt_of_cell c2)).trans c2
            have i0' := (Hb3.out.cell (block_lt_of_cell g0)).trans g0
            have i1' := (Hb3.out.cell (block_lt_of_cell g1)).trans g1
            have i2' := (Hb3.out.cell (block_lt_of_cell g2)).trans g2
            have hyd : g.getD (k - 1) En.nil = y := by rw [show k - 1 = t by omega, List.getD_eq_getElem?_getD, hyk]; rfl
            obtain ⟨⟨u', s', kd'⟩, val'⟩ := y
            dsimp only at i0' i1' i2'
            have hsat : sAt g k z = (decide (s ≤ z) && !decide (s' ≤ z)) := by unfold sAt; rw [Hgk.out, hyd]
            rw [hsat] at hst
            have hjt : IntKind.i64.wrap ((k : Int) - 1) = (t : Int) := (IntWalk.i64_in _ (by omega)).trans (by omega)
            have htn : t < n := by omega
            have Hst := Lib.hid hst
            have Hs1 := Lib.hid (sees_any u s kd z w3)
            clear hst hsat hyd hyk c0 c1 c2 g0 g1 g2 hkt hsv hk0
            by_cases hsz : s ≤ z
            · have Hsz := Lib.hid hsz
              have hs1 := Hs1.out
              rw [decide_eq_true hsz] at hs1
              have Hs1' := Lib.hid hs1
              clear hs1 Hs1
              go_wp2_with fail
              refine Hs1'.out.mono ?_
              rintro e w4 ⟨rfl, hb4⟩
              have j0 := (hb4.cell (block_lt_of_cell i0')).trans i0'
              have j1 := (hb4.cell (block_lt_of_cell i1')).trans i1'
              have j2 := (hb4.cell (block_lt_of_cell i2')).trans i2'
              have Hs2 := Lib.hid (sees_any u' s' kd' z w4)
              have Hb4 := Lib.hid (Hb3.out.trans (hb4.mono Hb3.out.size))
              clear hb4
              go_wp2_with fail
              refine Hs2.out.mono ?_
              rintro e w5 ⟨rfl, hb5⟩
              have Hb5 := Lib.hid (Hb4.out.trans (hb5.mono Hb4.out.size))
              clear hb5
              go_wp2
              go_roundw
              case rel => exact ⟨j + 1, by omega, by go_num, by rw [Hst.out, decide_eq_true Hsz.out, Bool.true_and], Hb5.out⟩
              case measure => simp [intOf]; omega
            · have Hsz := Lib.hid hsz
              have hs1 := Hs1.out
              rw [decide_eq_false hsz] at hs1
              have Hs1' := Lib.hid hs1
              clear hs1 Hs1
              go_wp2_with fail
              refine Hs1'.out.mono ?_
              rintro e w4 ⟨rfl, hb4⟩
              have Hb4 := Lib.hid (Hb3.out.trans (hb4.mono Hb3.out.size))
              clear hb4
              go_wp2
              go_roundw
              case rel => exact ⟨j + 1, by omega, by go_num, by rw [Hst.out, decide_eq_false (by have := Hsz.out; omega), Bool.false_and], Hb4.out⟩
              case measure => simp [intOf]; omega
        · obtain rfl : j = m := by omega
          have f0 := (Hb3.out.cell (block_lt_of_cell E0.out)).trans E0.out
          have f1 := (Hb3.out.cell (block_lt_of_cell E1.out)).trans E1.out
          have f2 := (Hb3.out.cell (block_lt_of_cell E2.out)).trans E2.out
          have f3 := (Hb3.out.cell (block_lt_of_cell E3.out)).trans E3.out
          have hown3 := own_below HoW.out Hb3.out
          have Hbw3 := Lib.hid (HbW.out.trans (Hb3.out.mono HbW.out.size))
          have hw3 := Hbw3.out.size
          have hsm := Sjm.out
          have hlt := hown3.lt
          have hsl := seenTo_le g zs k
          cases hsv : seenAt g zs k with
          | true =>
            rw [hsv] at hsm
            rw [hsm]
            have hnx : seenTo g zs (k + 1) = seenTo g zs k ++ [⟨⟨u, s, kd⟩, val⟩] := by
              show (if seenAt g zs k then _ else _) = _
              rw [hsv, Hgk.out]; rfl
            have Hnx := Lib.hid hnx
            have hi0 := Hi0.out
            have hz0 := Hz0.out
            have hz1 := Hz1.out
            have hz2 := Hz2.out
            generalize hq : seenTo g zs k = sg at *
            have Hq := Lib.hid hq
            clear hnx hsv hq
            go_wp2_with (first | (at_builtin; refine wpList_append_own _ rfl (.tmp 46) (.tmp 48) 22 rfl w.heap.size 30 i0 (.agg #[.string ⟨#[]⟩, .int .i64 0, .int .i64 0, .string ⟨#[]⟩]) 4 48 Try.underlying22 hi0 hz0 hz1 hz2 rfl (by decide) _ sg.length _ rfl (hown3.alloc _) ⟨w3.heap.size, 0, none⟩ 1 1 [.string u, .int .i64 s, .int .i64 kd, .string val] rfl rfl ?c1 ?c2 ?c3 ?c4 ?c5 ?_))
            case c1 => exact newsL _ _ rfl _ _ rfl
            case c2 => exact en_one ⟨⟨u, s, kd⟩, val⟩
            case c3 => unfold maxLen; omega
            case c4 => omega
            case c5 => first | omega | (simp; omega)
            intro v' w1 hown' hgrow _
            have hg1 : Below w.heap.size w w1 := grow_own (Hbw3.out.alloc hw3 _) (hown3.alloc _) hgrow (Nat.le_refl _) (by simp; omega)
            have h3 : w1.ownsRow w.heap.size 30 4 v' (seenTo g zs (k + 1)).length (flat En.cells (seenTo g zs (k + 1))) := by
              rw [Hnx.out, List.length_append, flat_append, flat_one]; exact hown'
            have H3 := Lib.hid h3
            have Hg1 := Lib.hid hg1
            clear hown' h3 hgrow hg1 hown3 hi0 hz0 hz1 hz2
            go_wp2
            go_roundw
            case rel => exact ⟨k + 1, by omega, by go_num, H3.out, Hg1.out⟩
            case measure => simp [intOf]; omega
          | false =>
            rw [hsv] at hsm
            rw [hsm]
            have hnx : seenTo g zs (k + 1) = seenTo g zs k := by
              show (if seenAt g zs k then _ else _) = _
              rw [hsv]; rfl
            have Hnx := Lib.hid hnx
            have Hown3 := Lib.hid hown3
            clear hnx hsv hown3
            go_wp2
            go_roundw
            case rel => exact ⟨k + 1, by omega, by go_num, by rw [Hnx.out]; exact Hown3.out, Hbw3.out⟩
            case measure => simp [intOf]; omega
    · obtain rfl : k = n := by omega
      go_wp2
      go_ret
      exact ⟨_, rfl, Hown.out, Hb.out⟩
end Go.Proofs.Ytkjfjcigmmooiaa.Tithe
