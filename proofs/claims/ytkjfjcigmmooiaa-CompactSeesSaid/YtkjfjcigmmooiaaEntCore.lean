/- Entries in memory: right, same: walked. -/
import Derived.Test.YtkjfjcigmmooiaaKeyCore
namespace Go.Proofs.Ytkjfjcigmmooiaa.Tithe
open Go.RowKit Go.Sort
set_option linter.unusedVariables false
theorem en_len (x : En) : x.cells.length = 4 := rfl
abbrev IsEs (w : World) (v : Value) (l : List En) : Prop := IsSl En.cells 4 w v l
theorem IsEs.row {w : World} {b off : Nat} {l : List En} (h : ∀ i x, l[i]? = some x → ∀ j y, (En.cells x)[j]? = some y → w.cell? ⟨b, off + i * 4 + j, none⟩ = some y) {i : Nat} {x : En} (hx : l[i]? = some x) :
    w.cell? ⟨b, off + i * 4, none⟩ = some (.string x.key.u) ∧ w.cell? ⟨b, off + i * 4 + 1, none⟩ = some (.int .i64 x.key.s) ∧ w.cell? ⟨b, off + i * 4 + 2, none⟩ = some (.int .i64 x.key.k) ∧ w.cell? ⟨b, off + i * 4 + 3, none⟩ = some (.string x.val) :=
  ⟨h i x hx 0 _ rfl, h i x hx 1 _ rfl, h i x hx 2 _ rfl, h i x hx 3 _ rfl⟩
/-- right entries: in order, each right -/
def rightAt (l : List En) (k : Nat) : Bool := match l[k]? with
  | none => true
  | some x => decide (x.val.size ≤ 300) && okK x.key && (decide (k = 0) || decide (cmpK ((l.getD (k - 1) En.nil).key) x.key < 0))
def rightTo (l : List En) (k : Nat) : Bool := (List.range k).all (rightAt l)
def rightE (l : List En) (most : Int) : Bool := rightTo l l.length && decide ((l.length : Int) ≤ most)
theorem rightTo_succ (l : List En) (k : Nat) : rightTo l (k + 1) = (rightTo l k && rightAt l k) := by
  unfold rightTo; rw [List.range_succ, List.all_append]; simp
theorem rightTo_false {l : List En} {k : Nat} (h : rightAt l k = false) (hk : k < l.length) : rightTo l l.length = false := by
  unfold rightTo
  rw [List.all_eq_false]
  exact ⟨k, List.mem_range.2 hk, by rw [h]; simp⟩
theorem right_false {l : List En} {n k : Nat} {most : Int} (hn : n = l.length) (hk : k < n) (h : rightAt l k = false) : rightE l most = false := by
  unfold rightE; rw [rightTo_false h (by omega)]; rfl
theorem rightE_eq {l : List En} {n : Nat} {most : Int} (hn : n = l.length) (h : rightTo l n = true) : rightE l most = decide ((n : Int) ≤ most) := by
  unfold rightE; rw [← hn, h]; rfl
set_option maxHeartbeats 1600000 in
set_option maxRecDepth 100000 in
theorem right_any (v : Value) (l : List En) (most : Int) (w : World) (h : IsEs w v l) : Calls Try.prog 8 #[v, .int .i64 most] w fun e w' => e = .returned (.bool (rightE l most)) ∧ Below w.heap.size w w' := by
  obtain ⟨a, c, rfl, -, -, -⟩ := id h
  obtain ⟨-, hc, hm, hx⟩ := h.at
  have Hx := Lib.hid hx
  clear h hx
  obtain ⟨n, hn⟩ : ∃ n, n = l.length := ⟨_, rfl⟩
  rw [← hn] at Hx hc ⊢
  have Hn := Lib.hid hn
  clear hn
  have hundef : undef = Value.tuple #[] := rfl
  have Hu := Lib.hid hundef
  clear hundef
  go_enter Try.func8, Try.ntmps8
  go_wp2
  go_loopw [9] (fun i wr => ∃ k : Nat, k ≤ n ∧ i = .int .i64 k ∧ rightTo l k = true ∧ Below w.heap.size w wr) (fun i _ => n - (intOf i).toNat)
  case atStart => exact ⟨0, Nat.zero_le _, rfl, rfl, Below.refl _ _⟩
  case round =>
    obtain ⟨wo, rfl⟩ : ∃ wo : World, wo = wr := ⟨_, rfl⟩
    obtain ⟨k, hk, rfl, hr, hb⟩ := hrel
    have Hr := Lib.hid hr
    have Hb := Lib.hid hb
    have hws := hb.size
    clear hr hb
    by_cases hkn : k < n
    · obtain ⟨b, off, rfl, hcell⟩ := Hx.out (by omega)
      obtain ⟨x, hxk⟩ : ∃ x, l[k]? = some x := ⟨_, List.getElem?_eq_getElem (by rw [← Hn.out]; exact hkn)⟩
      obtain ⟨c0, c1, c2, c3⟩ := IsEs.row hcell hxk
      have d0 := (Hb.out.cell (block_lt_of_cell c0)).trans c0
      have d1 := (Hb.out.cell (block_lt_of_cell c1)).trans c1
      have d2 := (Hb.out.cell (block_lt_of_cell c2)).trans c2
      have d3 := (Hb.out.cell (block_lt_of_cell c3)).trans c3
      have Hxk := Lib.hid hxk
      have hcell := Lib.hid hcell
      clear hxk c0 c1 c2 c3
      obtain ⟨⟨u, s, kd⟩, val⟩ := x
      dsimp only at d0 d1 d2 d3
      have e0 : (wo.alloc (.cells #[.string u, .int .i64 s, .int .i64 kd, .string val] 30)).cell? ⟨wo.heap.size, 0, none⟩ = some (.string u) := by rw [World.cell?_alloc_mark]; rfl
      have e1 : (wo.alloc (.cells #[.string u, .int .i64 s, .int .i64 kd, .string val] 30)).cell? ⟨wo.heap.size, 1, none⟩ = some (.int .i64 s) := by rw [World.cell?_alloc_mark]; rfl
      have e2 : (wo.alloc (.cells #[.string u, .int .i64 s, .int .i64 kd, .string val] 30)).cell? ⟨wo.heap.size, 2, none⟩ = some (.int .i64 kd) := by rw [World.cell?_alloc_mark]; rfl
      have e3 : (wo.alloc (.cells #[.string u, .int .i64 s, .int .i64 kd, .string val] 30)).cell? ⟨wo.heap.size, 3, none⟩ = some (.string val) := by rw [World.cell?_alloc_mark]; rfl
      have hbW : Below w.heap.size w (wo.alloc (.cells #[.string u, .int .i64 s, .int .i64 kd, .string val] 30)) := Hb.out.alloc hws _
      have HbW := Lib.hid hbW
      have E0 := Lib.hid e0
      have E1 := Lib.hid e1
      have E2 := Lib.hid e2
      have E3 := Lib.hid e3
      clear e0 e1 e2 e3 hbW
      go_wp2
      generalize (wo.alloc (.cells #[.string u, .int .i64 s, .int .i64 kd, .string val] 30)) = W at *
      have f0 := cell_regrown E0.out
      have f1 := cell_regrown E1.out
      have f2 := cell_regrown E2.out
      have f3 := cell_regrown E3.out
      clear d0 d1 d2 d3
      have hck : Hid (∀ (d : Nat) (os : Array Obj), Calls Try.prog 25 #[.agg #[.string u, .int .i64 s, .int .i64 kd]] (grow (redrawn W d) os) fun e w'' => e = .returned (.int .i64 (chkK ⟨u, s, kd⟩)) ∧ ∃ p : Regrown, w'' = grow (redrawn W p.d) p.os) := fun d os => Calls.regrown_of (kcheck_any ⟨u, s, kd⟩ _)
      by_cases hv : val.size ≤ 300
      · have hv2 : ¬ (300 : Int) < (val.size : Int) := by omega
        by_cases hok : okK ⟨u, s, kd⟩ = true
        · have hck2 := hck.out
          have hz : chkK ⟨u, s, kd⟩ = 0 := by unfold chkK; rw [if_pos hok]
          rw [hz] at hck2
          have Hck := Lib.hid hck2
          have Hok := Lib.hid hok
          clear hck2 hz hok hck
          by_cases hk0 : k = 0
          · have hk1 : ¬ 0 < k := by omega
            have Hk0 := Lib.hid hk0
            clear hk0
            refine wp_region_quiet_below (by kernel_rfl) (by kernel_rfl) ?_
            repeat (go_big_quiet_step (first | with_reducible exact Hck.out _ _))
            refine wpQuiet_nil ?_
            intro _ hw'
            obtain ⟨⟨dq, osq⟩, hw''⟩ := hw'
            subst hw''
            have hbq : Below w.heap.size w (grow (redrawn W dq) osq) := HbW.out.trans ((below_regrown W dq osq).mono HbW.out.size)
            have hra : rightAt l k = true := by unfold rightAt; rw [Hxk.out]; simp [hv, Hok.out, Hk0.out]
            have hra2 := Lib.hid ((rightTo_succ l k).trans (by rw [Hr.out, hra]))
            have Hbq := Lib.hid hbq
            clear hra hbq
            go_wp2
            go_roundw
            case rel => exact ⟨k + 1, by omega, by go_num, hra2.out, Hbq.out⟩
            case measure => simp [intOf]; omega
          · have hk1 : 0 < k := by omega
            clear hk0
            obtain ⟨t, hkt⟩ : ∃ t, k = t + 1 := ⟨k - 1, by omega⟩
            obtain ⟨y, hyk⟩ : ∃ y, l[t]? = some y := ⟨_, List.getElem?_eq_getElem (by rw [← Hn.out]; omega)⟩
            obtain ⟨c0, c1, c2, -⟩ := IsEs.row hcell.out hyk
            have g0 := cell_regrown ((HbW.out.cell (block_lt_of_cell c0)).trans c0)
            have g1 := cell_regrown ((HbW.out.cell (block_lt_of_cell c1)).trans c1)
            have g2 := cell_regrown ((HbW.out.cell (block_lt_of_cell c2)).trans c2)
            have hyd : l[t]?.getD En.nil = y := by rw [hyk]; rfl
            obtain ⟨⟨u', s', kd'⟩, val'⟩ := y
            dsimp only at g0 g1 g2
            have hcm : Hid (∀ (d : Nat) (os : Array Obj), Calls Try.prog 26 #[.agg #[.string u', .int .i64 s', .int .i64 kd'], .agg #[.string u, .int .i64 s, .int .i64 kd]] (grow (redrawn W d) os) fun e w'' => e = .returned (.int .i64 (cmpK ⟨u', s', kd'⟩ ⟨u, s, kd⟩)) ∧ ∃ p : Regrown, w'' = grow (redrawn W p.d) p.os) := fun d os => Calls.regrown_of (kcmp_any ⟨u', s', kd'⟩ ⟨u, s, kd⟩ _)
            have Hyd := Lib.hid hyd
            clear hyd hyk c0 c1 c2
            have hjt : IntKind.i64.wrap ((k : Int) - 1) = (t : Int) := (IntWalk.i64_in _ (by omega)).trans (by omega)
            have htn : t < n := by omega
            have Hkt := Lib.hid hkt
            clear hkt
            by_cases hlt : cmpK ⟨u', s', kd'⟩ ⟨u, s, kd⟩ < 0
            · generalize hcv : cmpK ⟨u', s', kd'⟩ ⟨u, s, kd⟩ = cv at *
              have Hcv := Lib.hid hcv
              have hge : ¬ 0 ≤ cv := by omega
              clear hcv
              refine wp_region_quiet_below (by kernel_rfl) (by kernel_rfl) ?_
              repeat (go_big_quiet_step (first | with_reducible exact Hck.out _ _ | with_reducible exact hcm.out _ _))
              refine wpQuiet_nil ?_
              intro _ hw'
              obtain ⟨⟨dq, osq⟩, hw''⟩ := hw'
              subst hw''
              have hbq : Below w.heap.size w (grow (redrawn W dq) osq) := HbW.out.trans ((below_regrown W dq osq).mono HbW.out.size)
              have hra : rightAt l k = true := by unfold rightAt; rw [Hxk.out]; simp [hv, Hok.out, Hkt.out, Hyd.out, Hcv.out, hlt]
              have hra2 := Lib.hid ((rightTo_succ l k).trans (by rw [Hr.out, hra]))
              have Hbq := Lib.hid hbq
              clear hra hbq
              go_wp2
              go_roundw
              case rel => exact ⟨k + 1, by omega, by go_num, hra2.out, Hbq.out⟩
              case measure => simp [intOf]; omega
            · generalize hcv : cmpK ⟨u', s', kd'⟩ ⟨u, s, kd⟩ = cv at *
              have Hcv := Lib.hid hcv
              have hge : 0 ≤ cv := by omega
              clear hcv
              refine wp_region_quiet_below (by kernel_rfl) (by kernel_rfl) ?_
              repeat (go_big_quiet_step (first | with_reducible exact Hck.out _ _ | with_reducible exact hcm.out _ _))
              refine wpQuiet_nil ?_
              intro _ hw'
              obtain ⟨⟨dq, osq⟩, hw''⟩ := hw'
              subst hw''
              have hbq : Below w.heap.size w (grow (redrawn W dq) osq) := HbW.out.trans ((below_regrown W dq osq).mono HbW.out.size)
              go_wp2
              go_ret
              have hra : rightAt l k = false := by unfold rightAt; rw [Hxk.out]; simp [hv, Hok.out, Hkt.out, Hyd.out, Hcv.out, hge]
              rw [right_false Hn.out hkn hra]
              exact ⟨rfl, hbq⟩
        · have hck2 := hck.out
          have hz : chkK ⟨u, s, kd⟩ = 30 := by unfold chkK; rw [if_neg hok]
          rw [hz] at hck2
          have Hck := Lib.hid hck2
          have Hok := Lib.hid hok
          clear hck2 hz hok hck
          refine wp_region_quiet_below (by kernel_rfl) (by kernel_rfl) ?_
          repeat (go_big_quiet_step (first | with_reducible exact Hck.out _ _))
          refine wpQuiet_nil ?_
          intro _ hw'
          obtain ⟨⟨dq, osq⟩, hw''⟩ := hw'
          subst hw''
          have hbq : Below w.heap.size w (grow (redrawn W dq) osq) := HbW.out.trans ((below_regrown W dq osq).mono HbW.out.size)
          go_wp2
          go_ret
          have hra : rightAt l k = false := by unfold rightAt; rw [Hxk.out]; simp [Hok.out]
          rw [right_false Hn.out hkn hra]
          exact ⟨rfl, hbq⟩
      · have hv2 : (300 : Int) < (val.size : Int) := by omega
        clear hck
        refine wp_region_quiet_below (by kernel_rfl) (by kernel_rfl) ?_
        repeat (go_big_quiet_step (first | fail))
        refine wpQuiet_nil ?_
        intro _ hw'
        obtain ⟨⟨dq, osq⟩, hw''⟩ := hw'
        subst hw''
        have hbq : Below w.heap.size w (grow (redrawn W dq) osq) := HbW.out.trans ((below_regrown W dq osq).mono HbW.out.size)
        go_wp2
        go_ret
        have hra : rightAt l k = false := by unfold rightAt; rw [Hxk.out]; simp [hv]
        rw [right_false Hn.out hkn hra]
        exact ⟨rfl, hbq⟩
    · obtain rfl : k = n := by omega
      go_wp2
      go_ret
      exact ⟨by rw [rightE_eq Hn.out Hr.out]; rfl, Hb.out⟩
end Go.Proofs.Ytkjfjcigmmooiaa.Tithe
