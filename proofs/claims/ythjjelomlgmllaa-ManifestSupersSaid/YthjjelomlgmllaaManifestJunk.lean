/- THE LAW ManifestJunk: walked (printed by mkjunk.py). -/
import Derived.Test.YthjjelomlgmllaaManRows
import Derived.Test.YthjjelomlgmllaaManAwake
import Derived.Test.YthjjelomlgmllaaManOpen
namespace Go.Proofs.Ythjjelomlgmllaa.Tithe
open Go.RowKit Go.Sort Go.Shelf
set_option linter.unusedVariables false
set_option linter.unusedSimpArgs false
set_option maxRecDepth 100000
/-- the newest of rows of bytes -/
def foldS (l : List (Value × List Nat)) : Int × Int := (l.map (·.2)).foldl newS (0, 0)
theorem foldS_add (l : List (Value × List Nat)) (x : Value × List Nat) : foldS (l ++ [x]) = newS (foldS l) x.2 := by
  unfold foldS; rw [List.map_append, List.foldl_append]; rfl
/-- what the loop keeps -/
structure JkI (w W : World) (av bv : Value) (A B : List (Value × List Nat)) : Prop where
  oa : OwnBB W w.heap.size av A
  ob : OwnBB W w.heap.size bv B
  sep : ∀ s, av.ownBlock = some s → bv.ownBlock ≠ some s
  ea : ∀ p ∈ A, El w W p
  eb : ∀ p ∈ B, El w W p
  eq : foldS A = foldS B
  pos : decide (0 < (foldS B).1) = decide (0 < B.length)
  bel : Below w.heap.size w W
theorem JkI.below {w W W' : World} {av bv : Value} {A B : List (Value × List Nat)} (h : JkI w W av bv A B) (hb : Below W.heap.size W W') : JkI w W' av bv A B :=
  ⟨own_below h.oa hb, own_below h.ob hb, h.sep, fun p hp => (h.ea p hp).below hb, fun p hp => (h.eb p hp).below hb, h.eq, h.pos, h.bel.trans (hb.mono h.bel.size)⟩
attribute [local go_sem] Oper.semAt_some
set_option maxHeartbeats 6400000 in
theorem manifestJunk_walk (v0 : Value) (l : List (Int × Int)) (v1 : Value) (js : List (Value × List Nat)) (w : World) (h0 : IsSu w v0 l) (h1 : IsRB w v1 js) :
    Calls Try.prog 6 #[v0, v1] w fun e w' => e = .returned (.bool true) ∧ Below w.heap.size w w' := by
  obtain ⟨a0, c0, rfl, -, -, -⟩ := id h0
  obtain ⟨a1, c1, rfl, -, -, -⟩ := id h1.1
  obtain ⟨-, -, -, hx0⟩ := h0.at
  obtain ⟨-, -, -, hx1⟩ := h1.1.at
  obtain ⟨n0, hn0⟩ : ∃ q, q = l.length := ⟨_, rfl⟩
  obtain ⟨n1, hn1⟩ : ∃ q, q = js.length := ⟨_, rfl⟩
  rw [← hn0] at hx0 ⊢
  rw [← hn1] at hx1 ⊢
  have Hn0 := Lib.hid hn0
  have Hn1 := Lib.hid hn1
  have Hx0 := Lib.hid hx0
  have Hx1 := Lib.hid hx1
  have Hj := Lib.hid h1.2
  have Haw := Lib.hid (fun X => awake16_any X)
  clear hn0 hn1 hx0 hx1 h0 h1
  go_enter Try.func6, Try.ntmps6
  by_cases h40 : 40 < n0
  · have d1 : decide ((n0 : Int) > 40) = true := decide_eq_true (by omega)
    have d2 : decide ((40 : Int) < (n0 : Int)) = true := decide_eq_true (by omega)
    go_wp2_with fail
    refine (Haw.out _).mono ?_
    rintro e w2 ⟨rfl, hb2⟩
    go_wp2_with fail
    go_ret
    exact ⟨rfl, hb2⟩
  have d1 : decide ((n0 : Int) > 40) = false := decide_eq_false (by omega)
  have d2 : decide ((40 : Int) < (n0 : Int)) = false := decide_eq_false (by omega)
  by_cases h41 : 40 < n1
  · have d3 : decide ((n1 : Int) > 40) = true := decide_eq_true (by omega)
    have d4 : decide ((40 : Int) < (n1 : Int)) = true := decide_eq_true (by omega)
    go_wp2_with fail
    refine (Haw.out _).mono ?_
    rintro e w2 ⟨rfl, hb2⟩
    go_wp2_with fail
    go_ret
    exact ⟨rfl, hb2⟩
  have d3 : decide ((n1 : Int) > 40) = false := decide_eq_false (by omega)
  have d4 : decide ((40 : Int) < (n1 : Int)) = false := decide_eq_false (by omega)
  go_wp2_with fail
  clear d1 d2 d3 d4
  go_loopw [5, 6, 28] (fun av bv iv wr => ∃ (k : Nat) (A B : List (Value × List Nat)), k ≤ n0 ∧ iv = .int .i64 k ∧ A.length ≤ 2 * k ∧ B.length ≤ k ∧ JkI w wr av bv A B) (fun _ _ i _ => n0 - (intOf i).toNat)
  case atStart => exact ⟨0, [], [], Nat.zero_le _, rfl, Nat.le_refl _, Nat.le_refl _, ⟨World.ownsRow_nil _ _ _ _, World.ownsRow_nil _ _ _ _, (fun s q => by cases q), (fun p hp => by cases hp), (fun p hp => by cases hp), rfl, rfl, Below.refl _ _⟩⟩
  case round =>
    obtain ⟨wo, rfl⟩ : ∃ wo : World, wo = wr := ⟨_, rfl⟩
    obtain ⟨k, A, B, hk, rfl, hAl, hBl, hI⟩ := hrel
    have HI := Lib.hid hI
    obtain ⟨an, han⟩ : ∃ q, q = A.length := ⟨_, rfl⟩
    obtain ⟨bn, hbn⟩ : ∃ q, q = B.length := ⟨_, rfl⟩
    have hoa := hI.oa
    have hob := hI.ob
    rw [OwnBB, ← han] at hoa
    rw [OwnBB, ← hbn] at hob
    obtain ⟨aa, ac, rfl⟩ := own_slice hoa
    obtain ⟨ba, bc, rfl⟩ := own_slice hob
    have Han := Lib.hid han
    have Hbn := Lib.hid hbn
    have HAl := Lib.hid hAl
    have HBl := Lib.hid hBl
    clear hI hoa hob han hbn hAl hBl
    by_cases hkn : k < n0
    · obtain ⟨be, off, rfl, hcell⟩ := Hx0.out (by omega)
      obtain ⟨⟨g, z⟩, hxk⟩ : ∃ x, l[k]? = some x := ⟨_, List.getElem?_eq_getElem (by rw [← Hn0.out]; exact hkn)⟩
      have c0' := hcell k _ hxk 0 _ rfl
      have c1' := hcell k _ hxk 1 _ rfl
      rw [Nat.add_zero] at c0'
      have d0 := (HI.out.bel.cell (block_lt_of_cell c0')).trans c0'
      have d1 := (HI.out.bel.cell (block_lt_of_cell c1')).trans c1'
      dsimp only at d0 d1
      have hA : Below wo.heap.size wo (wo.alloc (.cells #[.int .i64 g, .int .i64 z] 49)) := (Below.refl _ _).alloc (Nat.le_refl _) _
      have HX := Lib.hid (blk_of_alloc wo (.cells #[.int .i64 g, .int .i64 z] 49))
      have HI2 := Lib.hid (HI.out.below hA)
      have Hby := Lib.hid (sbytes_any g z (wo.alloc (.cells #[.int .i64 g, .int .i64 z] 49)))
      obtain ⟨xb, hxb⟩ : ∃ q, q = wo.heap.size := ⟨_, rfl⟩
      have Hxb := Lib.hid hxb
      rw [← hxb] at HX
      clear hcell hxk c0' c1' hA hxb HI
      go_upto_region 7 with fail
      rw [← Hxb.out]
      generalize wo.alloc (.cells #[.int .i64 g, .int .i64 z] 49) = W at *
      clear Hxb d0 d1
      have q0 : W.cell? ⟨xb, 0, none⟩ = some (.int .i64 g) := by rw [cell_blkR HX.out]; rfl
      have q1 : W.cell? ⟨xb, 1, none⟩ = some (.int .i64 z) := by rw [cell_blkR HX.out]; rfl
      go_wp2_with fail
      refine Hby.out.mono ?_
      rintro e w2 ⟨hc, hb2⟩
      have HI3 := Lib.hid (HI2.out.below hb2)
      rcases hc with ⟨hno, rfl⟩ | ⟨hok, bv, rfl, hob⟩
      · clear hno hb2 HI2 Hby HX q0 q1
        go_wp2_with fail
        go_roundw
        case rel => exact ⟨k + 1, A, B, by omega, by go_num, by have := HAl.out; omega, by have := HBl.out; omega, HI3.out⟩
        case measure => simp [intOf]; omega
      · have hEl : El w w2 (bv, encS (g, z)) := ⟨.inr (own_mono hob HI2.out.bel.size), (encS_lt hok).1, (encS_lt hok).2⟩
        obtain ⟨bvn, hbvn⟩ : ∃ q, q = (encS (g, z)).length := ⟨_, rfl⟩
        have hob2 := hob
        rw [OwnBs, ← hbvn] at hob2
        obtain ⟨bva, bvc, rfl⟩ := own_slice hob2
        have HEl := Lib.hid hEl
        have Hok := Lib.hid hok
        clear hok hob hob2 hEl hbvn hb2 HI2 Hby HX q0 q1
        go_upto_region 9 with fail
        -- the junk
        have hcut0 : ∀ (i : Nat), i < n1 → ∃ (bj oj : Nat) (jv : Value × List Nat), a1 = some ⟨bj, oj, none⟩ ∧ js[i]? = some jv ∧ w2.cell? ⟨bj, oj + i, none⟩ = some jv.1 := fun i hi => by
          obtain ⟨bj, oj, e, hc⟩ := Hx1.out (by omega)
          obtain ⟨jv, hjv⟩ : ∃ x, js[i]? = some x := ⟨_, List.getElem?_eq_getElem (by rw [← Hn1.out]; exact hi)⟩
          have := hc i _ hjv 0 _ rfl
          rw [Nat.mul_one, Nat.add_zero] at this
          exact ⟨bj, oj, jv, e, hjv, (HI3.out.bel.cell (block_lt_of_cell this)).trans this⟩
        have Hcut0 := Lib.hid hcut0
        clear hcut0
        by_cases hkj : k < n1
        · obtain ⟨bj, oj, ⟨jv, jb⟩, rfl, hjk, hjc⟩ := Hcut0.out k hkj
          obtain ⟨hjb, hjl⟩ := Hj.out _ (List.mem_of_getElem? hjk)
          dsimp only at hjb hjl hjc
          obtain ⟨ja, jc, rfl, -, -, -⟩ := id hjb
          obtain ⟨jn, hjn⟩ : ∃ q, q = jb.length := ⟨_, rfl⟩
          rw [← hjn] at hjc hjb
          have dk1 : decide ((k : Int) < (n1 : Int)) = true := decide_eq_true (by omega)
          by_cases h50 : jn ≤ 50
          · have dk2 : decide ((jn : Int) ≤ 50) = true := decide_eq_true (by omega)
            have hpa := sparse_any _ jb w2 (hjb.below HI3.out.bel) hjl (by omega)
            cases hq : supP jb with
            | none =>
              rw [supO_no hq] at hpa
              have Hpa := Lib.hid hpa
              have hElj : El w w2 (.slice ja jn jc, jb) := ⟨.inl hjb, hjl, by show jb.length ≤ 100000; omega⟩
              have Hq := Lib.hid hq
              have HElj := Lib.hid hElj
              clear hpa hq hElj hjb hjl hjn hjk
              go_wp2_with fail
              refine Hpa.out.mono ?_
              rintro e w3 ⟨rfl, hb3⟩
              have hA : Below w3.heap.size w3 (w3.alloc (.cells #[.int .i64 0, .int .i64 0] 49)) := (Below.refl _ _).alloc (Nat.le_refl _) _
              have hjc4 := (hA.cell (block_lt_of_cell ((hb3.cell (block_lt_of_cell hjc)).trans hjc))).trans ((hb3.cell (block_lt_of_cell hjc)).trans hjc)
              have HI4 := Lib.hid ((HI3.out.below hb3).below hA)
              have HEl4 := Lib.hid ((HEl.out.below hb3).below hA)
              have HElj4 := Lib.hid ((HElj.out.below hb3).below hA)
              clear hb3 hA hjc Hpa HI3 HEl HElj
              go_upto_region 11 with fail
              generalize w3.alloc (.cells #[.int .i64 0, .int .i64 0] 49) = W4 at *
              obtain ⟨aa', an', ac', w5, hrunJ, ho5, hb5, hE5, hO5⟩ := push_bb W4 w.heap.size _ A (.slice ja jn jc, jb) ⟨_, _, _, rfl⟩ HI4.out.oa (by have := HAl.out; omega) HI4.out.bel.size
              dsimp only at hrunJ
              obtain ⟨hoB5, hsep5⟩ := hO5 _ _ HI4.out.ob HI4.out.sep
              have HI5 : Hid (JkI w w5 (.slice aa' an' ac') (.slice ba bn bc) (A ++ [(.slice ja jn jc, jb)]) B) := Lib.hid ⟨ho5, hoB5, hsep5, (fun p hp => by
                rcases List.mem_append.1 hp with hp | hp
                · exact hE5 _ p rfl (HI4.out.ea p hp)
                · obtain rfl := List.mem_singleton.1 hp; exact hE5 _ _ rfl HElj4.out), (fun p hp => hE5 _ p rfl (HI4.out.eb p hp)), by rw [foldS_add, newS_none Hq.out]; exact HI4.out.eq, HI4.out.pos, HI4.out.bel.trans hb5⟩
              have HEl5 := Lib.hid (hE5 _ _ rfl HEl4.out)
              have HAl5 : Hid ((A ++ [((.slice ja jn jc : Value), jb)]).length ≤ 2 * k + 1) := Lib.hid (by rw [List.length_append, List.length_singleton]; have := HAl.out; omega)
              clear ho5 hb5 hE5 hO5 hoB5 hsep5 HI4 HEl4 HElj4
              obtain ⟨xa', xn', xc', w6, hrunA, ho6, hb6, hE6, hO6⟩ := push_bb w5 w.heap.size _ (A ++ [((.slice ja jn jc : Value), jb)]) (.slice bva bvn bvc, encS (g, z)) ⟨_, _, _, rfl⟩ HI5.out.oa (by have := HAl5.out; omega) HI5.out.bel.size
              skip
              dsimp only at hrunA
              obtain ⟨hoB6, hsep6⟩ := hO6 _ _ HI5.out.ob HI5.out.sep
              have hEl6 := hE6 _ _ rfl HEl5.out
              have hbel6 := HI5.out.bel.trans hb6
              obtain ⟨ya', yn', yc', w7, hrunB, ho7, hb7, hE7, hO7⟩ := push_bb w6 w.heap.size _ B (.slice bva bvn bvc, encS (g, z)) ⟨_, _, _, rfl⟩ hoB6 (by have := HBl.out; omega) hbel6.size
              dsimp only at hrunB
              obtain ⟨hoA7, hsep7⟩ := hO7 _ _ ho6 (fun s e1 e2 => hsep6 s e2 e1)
              have HI7 : Hid (JkI w w7 (.slice xa' xn' xc') (.slice ya' yn' yc') ((A ++ [((.slice ja jn jc : Value), jb)]) ++ [(.slice bva bvn bvc, encS (g, z))]) (B ++ [(.slice bva bvn bvc, encS (g, z))])) := Lib.hid ⟨hoA7, ho7, (fun s e1 e2 => hsep7 s e2 e1), (fun p hp => by
                rcases List.mem_append.1 hp with hp | hp
                · exact hE7 _ p rfl (hE6 _ p rfl (HI5.out.ea p hp))
                · obtain rfl := List.mem_singleton.1 hp; exact hE7 _ _ rfl hEl6), (fun p hp => by
                rcases List.mem_append.1 hp with hp | hp
                · exact hE7 _ p rfl (hE6 _ p rfl (HI5.out.eb p hp))
                · obtain rfl := List.mem_singleton.1 hp; exact hE7 _ _ rfl hEl6), (foldS_add _ _).trans (by rw [HI5.out.eq]; exact (foldS_add _ _).symm), by rw [foldS_add, decide_eq_true (newS_pos (x := (g, z)) Hok.out), decide_eq_true (by rw [List.length_append, List.length_singleton]; omega)], hbel6.trans hb7⟩
              have HAl7 : Hid (((A ++ [((.slice ja jn jc : Value), jb)]) ++ [((.slice bva bvn bvc : Value), encS (g, z))]).length ≤ 2 * (k + 1)) := Lib.hid (by rw [List.length_append, List.length_singleton]; have := HAl5.out; omega)
              have HBl7 : Hid ((B ++ [((.slice bva bvn bvc : Value), encS (g, z))]).length ≤ k + 1) := Lib.hid (by rw [List.length_append, List.length_singleton]; have := HBl.out; omega)
              clear ho6 hb6 hE6 hO6 hoB6 hsep6 hEl6 hbel6 ho7 hb7 hE7 hO7 hoA7 hsep7 HI5 HEl5
              go_wp2_with (at_builtin; first | (refine wpList_val rfl _ _ (run_append_op (.tmp 62) (.tmp 67) 47 47 rfl rfl rfl hrunJ) ?_) | (refine wpList_val rfl _ _ (run_append_op (.tmp 62) (.tmp 67) 47 47 rfl (by simp) (by simp) hrunJ) ?_) | (refine wpList_val rfl _ _ (run_append_op (.tmp 69) (.tmp 71) 47 47 rfl rfl rfl hrunA) ?_) | (refine wpList_val rfl _ _ (run_append_op (.tmp 69) (.tmp 71) 47 47 rfl (by simp) (by simp) hrunA) ?_) | (refine wpList_val rfl _ _ (run_append_op (.tmp 73) (.tmp 75) 47 47 rfl rfl rfl hrunB) ?_) | (refine wpList_val rfl _ _ (run_append_op (.tmp 73) (.tmp 75) 47 47 rfl (by simp) (by simp) hrunB) ?_))
              go_roundw
              case rel => exact ⟨k + 1, _, _, by omega, by go_num, HAl7.out, HBl7.out, HI7.out⟩
              case measure => simp [intOf]; omega
            | some y =>
              obtain ⟨y1, y2⟩ := y
              rw [supO_yes hq] at hpa
              have Hpa := Lib.hid hpa
              clear hpa hq hjb hjl hjn hjk
              go_wp2_with fail
              refine Hpa.out.mono ?_
              rintro e w3 ⟨rfl, hb3⟩
              have hA : Below w3.heap.size w3 (w3.alloc (.cells #[.int .i64 y1, .int .i64 y2] 49)) := (Below.refl _ _).alloc (Nat.le_refl _) _
              have HI5 := Lib.hid ((HI3.out.below hb3).below hA)
              have HEl5 := Lib.hid ((HEl.out.below hb3).below hA)
              have HAl5 : Hid (A.length ≤ 2 * k + 1) := Lib.hid (by have := HAl.out; omega)
              clear hb3 hA hjc Hpa HI3 HEl
              go_upto_region 11 with fail
              generalize w3.alloc (.cells #[.int .i64 y1, .int .i64 y2] 49) = w5 at *
              obtain ⟨xa', xn', xc', w6, hrunA, ho6, hb6, hE6, hO6⟩ := push_bb w5 w.heap.size _ A (.slice bva bvn bvc, encS (g, z)) ⟨_, _, _, rfl⟩ HI5.out.oa (by have := HAl5.out; omega) HI5.out.bel.size
              skip
              dsimp only at hrunA
              obtain ⟨hoB6, hsep6⟩ := hO6 _ _ HI5.out.ob HI5.out.sep
              have hEl6 := hE6 _ _ rfl HEl5.out
              have hbel6 := HI5.out.bel.trans hb6
              obtain ⟨ya', yn', yc', w7, hrunB, ho7, hb7, hE7, hO7⟩ := push_bb w6 w.heap.size _ B (.slice bva bvn bvc, encS (g, z)) ⟨_, _, _, rfl⟩ hoB6 (by have := HBl.out; omega) hbel6.size
              dsimp only at hrunB
              obtain ⟨hoA7, hsep7⟩ := hO7 _ _ ho6 (fun s e1 e2 => hsep6 s e2 e1)
              have HI7 : Hid (JkI w w7 (.slice xa' xn' xc') (.slice ya' yn' yc') (A ++ [(.slice bva bvn bvc, encS (g, z))]) (B ++ [(.slice bva bvn bvc, encS (g, z))])) := Lib.hid ⟨hoA7, ho7, (fun s e1 e2 => hsep7 s e2 e1), (fun p hp => by
                rcases List.mem_append.1 hp with hp | hp
                · exact hE7 _ p rfl (hE6 _ p rfl (HI5.out.ea p hp))
                · obtain rfl := List.mem_singleton.1 hp; exact hE7 _ _ rfl hEl6), (fun p hp => by
                rcases List.mem_append.1 hp with hp | hp
                · exact hE7 _ p rfl (hE6 _ p rfl (HI5.out.eb p hp))
                · obtain rfl := List.mem_singleton.1 hp; exact hE7 _ _ rfl hEl6), (foldS_add _ _).trans (by rw [HI5.out.eq]; exact (foldS_add _ _).symm), by rw [foldS_add, decide_eq_true (newS_pos (x := (g, z)) Hok.out), decide_eq_true (by rw [List.length_append, List.length_singleton]; omega)], hbel6.trans hb7⟩
              have HAl7 : Hid ((A ++ [((.slice bva bvn bvc : Value), encS (g, z))]).length ≤ 2 * (k + 1)) := Lib.hid (by rw [List.length_append, List.length_singleton]; have := HAl5.out; omega)
              have HBl7 : Hid ((B ++ [((.slice bva bvn bvc : Value), encS (g, z))]).length ≤ k + 1) := Lib.hid (by rw [List.length_append, List.length_singleton]; have := HBl.out; omega)
              clear ho6 hb6 hE6 hO6 hoB6 hsep6 hEl6 hbel6 ho7 hb7 hE7 hO7 hoA7 hsep7 HI5 HEl5
              go_wp2_with (at_builtin; first | (refine wpList_val rfl _ _ (run_append_op (.tmp 69) (.tmp 71) 47 47 rfl rfl rfl hrunA) ?_) | (refine wpList_val rfl _ _ (run_append_op (.tmp 69) (.tmp 71) 47 47 rfl (by simp) (by simp) hrunA) ?_) | (refine wpList_val rfl _ _ (run_append_op (.tmp 73) (.tmp 75) 47 47 rfl rfl rfl hrunB) ?_) | (refine wpList_val rfl _ _ (run_append_op (.tmp 73) (.tmp 75) 47 47 rfl (by simp) (by simp) hrunB) ?_))
              go_roundw
              case rel => exact ⟨k + 1, _, _, by omega, by go_num, HAl7.out, HBl7.out, HI7.out⟩
              case measure => simp [intOf]; omega
          · have dk2 : decide ((jn : Int) ≤ 50) = false := decide_eq_false (by omega)
            have HI5 := HI3
            have HEl5 := HEl
            have HAl5 : Hid (A.length ≤ 2 * k + 1) := Lib.hid (by have := HAl.out; omega)
            obtain ⟨w5, hw5⟩ : ∃ q, q = w2 := ⟨_, rfl⟩
            subst hw5
            clear hjb hjl hjn hjk
            obtain ⟨xa', xn', xc', w6, hrunA, ho6, hb6, hE6, hO6⟩ := push_bb w5 w.heap.size _ A (.slice bva bvn bvc, encS (g, z)) ⟨_, _, _, rfl⟩ HI5.out.oa (by have := HAl5.out; omega) HI5.out.bel.size
            skip
            dsimp only at hrunA
            obtain ⟨hoB6, hsep6⟩ := hO6 _ _ HI5.out.ob HI5.out.sep
            have hEl6 := hE6 _ _ rfl HEl5.out
            have hbel6 := HI5.out.bel.trans hb6
            obtain ⟨ya', yn', yc', w7, hrunB, ho7, hb7, hE7, hO7⟩ := push_bb w6 w.heap.size _ B (.slice bva bvn bvc, encS (g, z)) ⟨_, _, _, rfl⟩ hoB6 (by have := HBl.out; omega) hbel6.size
            dsimp only at hrunB
            obtain ⟨hoA7, hsep7⟩ := hO7 _ _ ho6 (fun s e1 e2 => hsep6 s e2 e1)
            have HI7 : Hid (JkI w w7 (.slice xa' xn' xc') (.slice ya' yn' yc') (A ++ [(.slice bva bvn bvc, encS (g, z))]) (B ++ [(.slice bva bvn bvc, encS (g, z))])) := Lib.hid ⟨hoA7, ho7, (fun s e1 e2 => hsep7 s e2 e1), (fun p hp => by
              rcases List.mem_append.1 hp with hp | hp
              · exact hE7 _ p rfl (hE6 _ p rfl (HI5.out.ea p hp))
              · obtain rfl := List.mem_singleton.1 hp; exact hE7 _ _ rfl hEl6), (fun p hp => by
              rcases List.mem_append.1 hp with hp | hp
              · exact hE7 _ p rfl (hE6 _ p rfl (HI5.out.eb p hp))
              · obtain rfl := List.mem_singleton.1 hp; exact hE7 _ _ rfl hEl6), (foldS_add _ _).trans (by rw [HI5.out.eq]; exact (foldS_add _ _).symm), by rw [foldS_add, decide_eq_true (newS_pos (x := (g, z)) Hok.out), decide_eq_true (by rw [List.length_append, List.length_singleton]; omega)], hbel6.trans hb7⟩
            have HAl7 : Hid ((A ++ [((.slice bva bvn bvc : Value), encS (g, z))]).length ≤ 2 * (k + 1)) := Lib.hid (by rw [List.length_append, List.length_singleton]; have := HAl5.out; omega)
            have HBl7 : Hid ((B ++ [((.slice bva bvn bvc : Value), encS (g, z))]).length ≤ k + 1) := Lib.hid (by rw [List.length_append, List.length_singleton]; have := HBl.out; omega)
            clear ho6 hb6 hE6 hO6 hoB6 hsep6 hEl6 hbel6 ho7 hb7 hE7 hO7 hoA7 hsep7 HI5 HEl5
            go_wp2_with (at_builtin; first | (refine wpList_val rfl _ _ (run_append_op (.tmp 69) (.tmp 71) 47 47 rfl rfl rfl hrunA) ?_) | (refine wpList_val rfl _ _ (run_append_op (.tmp 69) (.tmp 71) 47 47 rfl (by simp) (by simp) hrunA) ?_) | (refine wpList_val rfl _ _ (run_append_op (.tmp 73) (.tmp 75) 47 47 rfl rfl rfl hrunB) ?_) | (refine wpList_val rfl _ _ (run_append_op (.tmp 73) (.tmp 75) 47 47 rfl (by simp) (by simp) hrunB) ?_))
            go_roundw
            case rel => exact ⟨k + 1, _, _, by omega, by go_num, HAl7.out, HBl7.out, HI7.out⟩
            case measure => simp [intOf]; omega
        · have dk1 : decide ((k : Int) < (n1 : Int)) = false := decide_eq_false (by omega)
          have HI5 := HI3
          have HEl5 := HEl
          have HAl5 : Hid (A.length ≤ 2 * k + 1) := Lib.hid (by have := HAl.out; omega)
          obtain ⟨w5, hw5⟩ : ∃ q, q = w2 := ⟨_, rfl⟩
          subst hw5
          obtain ⟨xa', xn', xc', w6, hrunA, ho6, hb6, hE6, hO6⟩ := push_bb w5 w.heap.size _ A (.slice bva bvn bvc, encS (g, z)) ⟨_, _, _, rfl⟩ HI5.out.oa (by have := HAl5.out; omega) HI5.out.bel.size
          skip
          dsimp only at hrunA
          obtain ⟨hoB6, hsep6⟩ := hO6 _ _ HI5.out.ob HI5.out.sep
          have hEl6 := hE6 _ _ rfl HEl5.out
          have hbel6 := HI5.out.bel.trans hb6
          obtain ⟨ya', yn', yc', w7, hrunB, ho7, hb7, hE7, hO7⟩ := push_bb w6 w.heap.size _ B (.slice bva bvn bvc, encS (g, z)) ⟨_, _, _, rfl⟩ hoB6 (by have := HBl.out; omega) hbel6.size
          dsimp only at hrunB
          obtain ⟨hoA7, hsep7⟩ := hO7 _ _ ho6 (fun s e1 e2 => hsep6 s e2 e1)
          have HI7 : Hid (JkI w w7 (.slice xa' xn' xc') (.slice ya' yn' yc') (A ++ [(.slice bva bvn bvc, encS (g, z))]) (B ++ [(.slice bva bvn bvc, encS (g, z))])) := Lib.hid ⟨hoA7, ho7, (fun s e1 e2 => hsep7 s e2 e1), (fun p hp => by
            rcases List.mem_append.1 hp with hp | hp
            · exact hE7 _ p rfl (hE6 _ p rfl (HI5.out.ea p hp))
            · obtain rfl := List.mem_singleton.1 hp; exact hE7 _ _ rfl hEl6), (fun p hp => by
            rcases List.mem_append.1 hp with hp | hp
            · exact hE7 _ p rfl (hE6 _ p rfl (HI5.out.eb p hp))
            · obtain rfl := List.mem_singleton.1 hp; exact hE7 _ _ rfl hEl6), (foldS_add _ _).trans (by rw [HI5.out.eq]; exact (foldS_add _ _).symm), by rw [foldS_add, decide_eq_true (newS_pos (x := (g, z)) Hok.out), decide_eq_true (by rw [List.length_append, List.length_singleton]; omega)], hbel6.trans hb7⟩
          have HAl7 : Hid ((A ++ [((.slice bva bvn bvc : Value), encS (g, z))]).length ≤ 2 * (k + 1)) := Lib.hid (by rw [List.length_append, List.length_singleton]; have := HAl5.out; omega)
          have HBl7 : Hid ((B ++ [((.slice bva bvn bvc : Value), encS (g, z))]).length ≤ k + 1) := Lib.hid (by rw [List.length_append, List.length_singleton]; have := HBl.out; omega)
          clear ho6 hb6 hE6 hO6 hoB6 hsep6 hEl6 hbel6 ho7 hb7 hE7 hO7 hoA7 hsep7 HI5 HEl5
          go_wp2_with (at_builtin; first | (refine wpList_val rfl _ _ (run_append_op (.tmp 69) (.tmp 71) 47 47 rfl rfl rfl hrunA) ?_) | (refine wpList_val rfl _ _ (run_append_op (.tmp 69) (.tmp 71) 47 47 rfl (by simp) (by simp) hrunA) ?_) | (refine wpList_val rfl _ _ (run_append_op (.tmp 73) (.tmp 75) 47 47 rfl rfl rfl hrunB) ?_) | (refine wpList_val rfl _ _ (run_append_op (.tmp 73) (.tmp 75) 47 47 rfl (by simp) (by simp) hrunB) ?_))
          go_roundw
          case rel => exact ⟨k + 1, _, _, by omega, by go_num, HAl7.out, HBl7.out, HI7.out⟩
          case measure => simp [intOf]; omega
    · obtain rfl : k = n0 := by omega
      have Hnw := Lib.hid (newest_any _ A wo ⟨isSl_own bbC_len HI.out.oa, fun p hp => (HI.out.ea p hp).is HI.out.bel⟩)
      obtain ⟨F, hF⟩ : ∃ q, q = foldS B := ⟨_, rfl⟩
      have hFA : (A.map (·.2)).foldl newS (0, 0) = F := by rw [hF]; exact HI.out.eq
      have hpos := HI.out.pos
      rw [← hF] at hpos
      obtain ⟨ok, hok⟩ : ∃ q, q = decide (0 < F.1) := ⟨_, rfl⟩
      rw [hFA, ← hok] at Hnw
      have Hok := Lib.hid hok
      have Hpos : Hid (ok = decide (0 < bn)) := Lib.hid (by rw [hok, hpos, ← Hbn.out])
      have HF := Lib.hid hF
      obtain ⟨f1, f2⟩ := F
      dsimp only at Hnw
      clear hF hFA hpos hok
      go_wp2_with fail
      refine Hnw.out.mono ?_
      rintro e w2 ⟨rfl, hb2⟩
      have hA : Below w2.heap.size w2 (w2.alloc (.cells #[.int .i64 f1, .int .i64 f2] 49)) := (Below.refl _ _).alloc (Nat.le_refl _) _
      have HP := Lib.hid (blk_of_alloc w2 (.cells #[.int .i64 f1, .int .i64 f2] 49))
      have hI2 := (HI.out.below hb2).below hA
      have hnw2 := newest_any _ B _ ⟨isSl_own bbC_len hI2.ob, fun p hp => (hI2.eb p hp).is hI2.bel⟩
      rw [show (B.map (·.2)).foldl newS (0, 0) = (f1, f2) from HF.out.symm] at hnw2
      dsimp only at hnw2
      rw [show decide (0 < f1) = ok from Hok.out.symm] at hnw2
      have Hnw2 := Lib.hid hnw2
      have HB2 := Lib.hid hI2.bel
      obtain ⟨pb, hpb⟩ : ∃ q, q = w2.heap.size := ⟨_, rfl⟩
      have Hpb := Lib.hid hpb
      rw [← hpb] at HP
      clear hb2 hA hI2 hnw2 hpb Hnw HI
      go_upto_region 17 with fail
      rw [← Hpb.out]
      generalize w2.alloc (.cells #[.int .i64 f1, .int .i64 f2] 49) = W2 at *
      clear Hpb
      go_wp2_with fail
      refine Hnw2.out.mono ?_
      rintro e w4 ⟨rfl, hb4⟩
      have hA : Below w4.heap.size w4 (w4.alloc (.cells #[.int .i64 f1, .int .i64 f2] 49)) := (Below.refl _ _).alloc (Nat.le_refl _) _
      have HQ := Lib.hid (blk_of_alloc w4 (.cells #[.int .i64 f1, .int .i64 f2] 49))
      have HP4 := Lib.hid (blk_bels hA (blk_bels hb4 HP.out))
      have HB4 := Lib.hid (HB2.out.trans ((hb4.trans (hA.mono hb4.size)).mono HB2.out.size))
      obtain ⟨qb, hqb⟩ : ∃ q, q = w4.heap.size := ⟨_, rfl⟩
      have Hqb := Lib.hid hqb
      rw [← hqb] at HQ
      clear hb4 hA hqb Hnw2 HP HB2
      go_upto_region 18 with fail
      rw [← Hqb.out]
      generalize w4.alloc (.cells #[.int .i64 f1, .int .i64 f2] 49) = W4 at *
      have x0 : W4.cell? ⟨pb, 0, none⟩ = some (.int .i64 f1) := by rw [cell_blkR HP4.out]; rfl
      have x1 : W4.cell? ⟨pb, 1, none⟩ = some (.int .i64 f2) := by rw [cell_blkR HP4.out]; rfl
      have y0 : W4.cell? ⟨qb, 0, none⟩ = some (.int .i64 f1) := by rw [cell_blkR HQ.out]; rfl
      have y1 : W4.cell? ⟨qb, 1, none⟩ = some (.int .i64 f2) := by rw [cell_blkR HQ.out]; rfl
      clear Hqb
      cases ok with
      | true =>
        have hb0 : (0 : Int) < (bn : Int) := by have := Hpos.out; have := of_decide_eq_true this.symm; omega
        have hd1 : decide ((bn : Int) > 0) = true := decide_eq_true hb0
        have hd2 : decide ((0 : Int) < (bn : Int)) = true := decide_eq_true hb0
        go_wp2_with fail
        refine (Haw.out _).mono ?_
        rintro e w6 ⟨rfl, hb6⟩
        go_wp2_with fail
        go_ret
        exact ⟨rfl, HB4.out.trans (hb6.mono HB4.out.size)⟩
      | false =>
        have hb0 : ¬ (0 : Int) < (bn : Int) := by have := Hpos.out; have := of_decide_eq_false this.symm; omega
        have hd1 : decide ((bn : Int) > 0) = false := decide_eq_false hb0
        have hd2 : decide ((0 : Int) < (bn : Int)) = false := decide_eq_false hb0
        go_wp2_with fail
        refine (Haw.out _).mono ?_
        rintro e w6 ⟨rfl, hb6⟩
        go_wp2_with fail
        go_ret
        exact ⟨rfl, HB4.out.trans (hb6.mono HB4.out.size)⟩
end Go.Proofs.Ythjjelomlgmllaa.Tithe
