/- compact.Refs: walked. -/
import Derived.Test.YtkjfjcigmmooiaaVparse
import Derived.Test.YtkjfjcigmmooiaaSizes
import Derived.Test.YtkjfjcigmmooiaaEntCut
import Derived.StillTailTactics
namespace Go.Proofs.Ytkjfjcigmmooiaa.Tithe
open Go.RowKit Go.Sort
set_option linter.unusedVariables false
set_option maxRecDepth 100000
def zArr (f : Nat → Nat) : Array Value := ((List.range 64).map fun z => Value.int .i64 (f z)).toArray
def addZ (f : Nat → Nat) (z n : Nat) : Nat → Nat := fun y => if y = z then f y + n else f y
theorem zArr_get (f : Nat → Nat) {z : Nat} (h : z < 64) : (zArr f)[z]? = some (.int .i64 (f z)) := by
  unfold zArr; simp [h]
theorem zArr_set (f : Nat → Nat) {z : Nat} (n : Nat) (h : z < 64) : (zArr f).setIfInBounds z (.int .i64 ((f z + n : Nat) : Int)) = zArr (addZ f z n) := by
  apply Array.ext_getElem?
  intro i
  rw [Array.getElem?_setIfInBounds]
  unfold zArr addZ
  by_cases hi : z = i
  · subst hi; simp [h]
  · rw [if_neg hi]
    by_cases h2 : i < 64
    · simp [h2]
      rw [if_neg (by omega)]
    · rw [Array.getElem?_eq_none (by simp; omega), Array.getElem?_eq_none (by simp; omega)]
def refC (r : Nat × Nat) : List Value := [.int .i64 r.1, .int .i64 r.2]
theorem refC_len (r : Nat × Nat) : (refC r).length = 2 := rfl
abbrev IsRf (w : World) (v : Value) (l : List (Nat × Nat)) : Prop := IsSl refC 2 w v l
def parOf (x : En) : (Nat × Nat × Nat) × Bool := parR (bytesOf x.val)
def addE (f : Nat → Nat) (x : En) : Nat → Nat := if x.key.k = 3 ∧ (parOf x).2 = true then addZ f (parOf x).1.1 (rsz (parOf x).1.2.2) else f
def bytesTo (g : List En) : Nat → Nat → Nat
  | 0 => fun _ => 0
  | k + 1 => addE (bytesTo g k) (g.getD k En.nil)
theorem par_ok {bs : List Nat} (h : (parR bs).2 = true) : (parR bs).1.1 < 64 ∧ (parR bs).1.2.2 < 65537 := by
  have h2 : okP ((parR bs).1.1 : Nat) ((parR bs).1.2.1 : Nat) ((parR bs).1.2.2 : Nat) = true := by
    unfold parR at h ⊢
    simp only [Bool.and_eq_true] at h
    exact h.2
  unfold okP at h2
  simp only [Bool.and_eq_true, decide_eq_true_eq] at h2
  omega
theorem rsz_le (n : Nat) (h : n < 65537) : rsz n ≤ 65543 := by
  have := wsz_le n h
  unfold rsz; omega
theorem addZ_le (f : Nat → Nat) (z n y : Nat) {m : Nat} (h : n ≤ m) : addZ f z n y ≤ f y + m := by
  unfold addZ; split <;> omega
theorem bytesTo_le (g : List En) : ∀ k z, bytesTo g k z ≤ k * 65543
  | 0, z => Nat.zero_le _
  | k + 1, z => by
    have ih := bytesTo_le g k z
    show addE (bytesTo g k) (g.getD k En.nil) z ≤ _
    unfold addE
    split
    · next h =>
      have h2 : rsz (parOf (g.getD k En.nil)).1.2.2 ≤ 65543 := rsz_le _ (par_ok h.2).2
      clear h
      have h3 := addZ_le (bytesTo g k) (parOf (g.getD k En.nil)).1.1 _ z h2
      generalize addZ (bytesTo g k) (parOf (g.getD k En.nil)).1.1 (rsz (parOf (g.getD k En.nil)).1.2.2) z = q at *
      generalize bytesTo g k z = q2 at *
      omega
    · exact Nat.le_trans ih (Nat.mul_le_mul_right _ (Nat.le_succ k))
def refsTo (f : Nat → Nat) : Nat → List (Nat × Nat)
  | 0 => []
  | z + 1 => if 0 < f z then refsTo f z ++ [(z, f z)] else refsTo f z
theorem refsTo_le (f : Nat → Nat) : ∀ z, (refsTo f z).length ≤ z
  | 0 => Nat.le_refl _
  | z + 1 => by
    have := refsTo_le f z
    unfold refsTo
    split <;> simp <;> omega
theorem kept_new {wo w1 : World} {cs : Array Value} {t : TypeId} {j : Nat} {v : Value} (hb1 : Below (wo.alloc (.cells cs t)).heap.size (wo.alloc (.cells cs t)) w1) (hj : cs[j]? = some v) (o : Obj) : (w1.alloc o).cell? ⟨wo.heap.size, j, none⟩ = some v := by
  have hlt : wo.heap.size < (wo.alloc (.cells cs t)).heap.size := by rw [World.size_alloc]; omega
  have h1 := newsL (W := wo) cs.toList cs rfl t wo.heap.size rfl j v (by simpa using hj)
  rw [plain_add', Nat.zero_add] at h1
  rw [World.cell?_alloc_lt _ _ _ (by have := hb1.size; show wo.heap.size < _; omega)]
  exact (hb1.cell (p := ⟨wo.heap.size, j, none⟩) hlt).trans h1
theorem blk_step {wo w1 : World} {o1 X : Obj} {b : Nat} (hb1 : Below (wo.alloc o1).heap.size (wo.alloc o1) w1) (h : wo.heap[b]? = some X) (o : Obj) : (w1.alloc o).heap[b]? = some X := by
  obtain ⟨hlt, -⟩ := Array.getElem?_eq_some_iff.1 h
  have hs : (wo.alloc o1).heap.size = wo.heap.size + 1 := World.size_alloc _ _
  have hl1 : b < w1.heap.size := by have := hb1.size; omega
  have e1 : (w1.alloc o).heap[b]? = w1.heap[b]? := by
    show (w1.heap.push o)[b]? = _
    rw [Array.getElem?_push_lt hl1, Array.getElem?_eq_getElem hl1]
  have e2 : (wo.alloc o1).heap[b]? = wo.heap[b]? := by
    show (wo.heap.push o1)[b]? = _
    rw [Array.getElem?_push_lt hlt, Array.getElem?_eq_getElem hlt]
  rw [e1, hb1.block b (by omega), e2, h]
theorem refInfo : (Try.prog.info? 45).map (fun i => (i.zero, i.size, i.bytes)) = some (some (.agg #[.int .i64 0, .int .i64 0]), 2, 16) := by kernel_rfl
theorem ref_one (z F : Nat) : ∀ u ∈ [Value.int .i64 (z : Int), Value.int .i64 (F : Int)], u.oneCell' = true := by
  intro u hu
  simp only [List.mem_cons, List.not_mem_nil, or_false] at hu
  rcases hu with rfl | rfl <;> rfl
theorem index_arr (f : Nat → Nat) {z : Nat} (h : z < 64) (W : World) : (Instr.index 35 (.agg (zArr f)) (.int .i64 z)).run Try.prog W = .ok (.int .i64 (f z)) W := by
  have hget := zArr_get f h
  have hsize : (zArr f).size = 64 := by simp [zArr]
  generalize zArr f = A at *
  have h1 : (0 : Int) ≤ (z : Int) := by omega
  simp [Instr.index, go_sem, h1, hget]
  intro q; omega
theorem below_refs {w wo w1 : World} {o1 : Obj} (hb : Below w.heap.size w wo) (hb1 : Below (wo.alloc o1).heap.size (wo.alloc o1) w1) (o : Obj) : Below w.heap.size w (w1.alloc o) := by
  have h1 := hb.size
  have h2 := hb1.size
  have hs : (wo.alloc o1).heap.size = wo.heap.size + 1 := World.size_alloc _ _
  exact ((hb.alloc h1 o1).trans (hb1.mono (by omega))).alloc (by omega) _
theorem still_tail {P : Program} {id : Nat} {Q : Exit → Act → World → Prop} {a : Act} {w : World} {l : List Oper} (n : Nat) (hm : P.follows .mixedOrders = true) (hB : Region.lexTailB .any l.toArray n = true)
    (h : wpStill P l.toArray w.drew (fun a' => wpList P l.toArray Q (l.drop n) a' w.drew) (l.take n) a) : (Code.region id l.toArray true).wp P Q a w := wp_region_still_tail n hm hB h
set_option maxHeartbeats 1600000 in
theorem refs_any (v : Value) (g : List En) (w : World) (h : IsEs w v g) (hg : g.length ≤ 100000) (hs : ∀ x ∈ g, x.val.size ≤ 1000000) :
    Calls Try.prog 15 #[v] w fun e w' => ∃ v', e = .returned v' ∧ w'.ownsRow w.heap.size 45 2 v' (refsTo (bytesTo g g.length) 64).length (flat refC (refsTo (bytesTo g g.length) 64)) ∧ Below w.heap.size w w' := by
  obtain ⟨i0, hi0, hz0, hz1, hz2⟩ := info_parts' refInfo
  have Hi0 := Lib.hid hi0
  have Hz0 := Lib.hid hz0
  have Hz1 := Lib.hid hz1
  have Hz2 := Lib.hid hz2
  clear hi0 hz0 hz1 hz2
  obtain ⟨a, c, rfl, -, -, -⟩ := id h
  obtain ⟨-, hc, hm, hx⟩ := h.at
  have Hx := Lib.hid hx
  have Hs := Lib.hid hs
  obtain ⟨n, hn⟩ : ∃ n, n = g.length := ⟨_, rfl⟩
  rw [← hn] at Hx hc hg ⊢
  have Hn := Lib.hid hn
  obtain ⟨f, hf⟩ : ∃ f, f = bytesTo g n := ⟨_, rfl⟩
  rw [← hf]
  have Hf := Lib.hid hf
  clear h hx hn hs hf
  go_enter Try.func15, Try.ntmps15
  go_wp2
  go_loopw [13] (fun i wr => ∃ k : Nat, k ≤ n ∧ i = .int .i64 k ∧ wr.heap[w.heap.size]? = some (.cells (zArr (bytesTo g k)) 35 (0, 0)) ∧ Below w.heap.size w wr) (fun i _ => n - (intOf i).toNat)
  case atStart => exact ⟨0, Nat.zero_le _, rfl, by show (w.heap.push _)[w.heap.size]? = _; rw [Array.getElem?_push_size]; rfl, (Below.refl _ _).alloc (Nat.le_refl _) _⟩
  case round =>
    obtain ⟨wo, rfl⟩ : ∃ wo : World, wo = wr := ⟨_, rfl⟩
    obtain ⟨k, hk, rfl, hblk, hb⟩ := hrel
    have Hblk := Lib.hid hblk
    have Hb := Lib.hid hb
    clear hblk hb
    by_cases hkn : k < n
    · obtain ⟨b, off, rfl, hcell⟩ := Hx.out (by omega)
      obtain ⟨x, hxk⟩ : ∃ x, g[k]? = some x := ⟨_, List.getElem?_eq_getElem (by rw [← Hn.out]; exact hkn)⟩
      obtain ⟨c0, c1, c2, c3⟩ := IsEs.row (fun i y hi j z hj => (Hb.out.cell (p := ⟨b, off + i * 4 + j, none⟩) (block_lt_of_cell (hcell i y hi j z hj))).trans (hcell i y hi j z hj)) hxk
      clear hcell
      obtain ⟨⟨u, s, kd⟩, val⟩ := x
      dsimp only at c0 c1 c2 c3
      have hpar := fun W => parse_any val W (Hs.out _ (List.mem_of_getElem? hxk))
      have hstep : bytesTo g (k + 1) = addE (bytesTo g k) ⟨⟨u, s, kd⟩, val⟩ := by
        show addE (bytesTo g k) (g.getD k En.nil) = _
        rw [List.getD_eq_getElem?_getD, hxk]; rfl
      have Hstep := Lib.hid hstep
      clear hstep
      by_cases hp : (parR (bytesOf val)).2 = true
      · rw [parE_yes hp] at hpar
        obtain ⟨hz, hl⟩ := par_ok hp
        by_cases hk3 : kd = 3
        · subst hk3
          have hF := bytesTo_le g k (parR (bytesOf val)).1.1
          have hS := rsz_le _ hl
          have hsz := fun W => rsize_any (parR (bytesOf val)).1.2.2 W hl
          have hnew : bytesTo g (k + 1) = addZ (bytesTo g k) (parR (bytesOf val)).1.1 (rsz (parR (bytesOf val)).1.2.2) := by
            rw [Hstep.out]; unfold addE; rw [if_pos ⟨rfl, hp⟩]; rfl
          have Hnew := Lib.hid hnew
          clear hp Hstep hl hnew
          generalize (parR (bytesOf val)).1.2.2 = L at *
          generalize (parR (bytesOf val)).1.2.1 = T at *
          generalize (parR (bytesOf val)).1.1 = Z at *
          have hset := zArr_set (bytesTo g k) (rsz L) hz
          have hget := zArr_get (bytesTo g k) hz
          have Hset := Lib.hid hset
          clear hset
          generalize hFF : bytesTo g k Z = F at *
          generalize hSS : rsz L = S at *
          have hi0 : (Z : Int) < 64 := by omega
          have hi1 : (F : Int) + (S : Int) ≤ 9223372036854775807 := by omega
          have HF := Lib.hid hF
          clear hF
          go_wp2_with (go_at_call 36; refine (hpar _).mono ?_; rintro e w1 ⟨hb1, rfl⟩; have hc2 := fun o => kept_new (j := 2) hb1 rfl o; have Hbk := Lib.hid (fun o => blk_step hb1 Hblk.out o); have hca := fun o => (cell_blkR (Hbk.out o) Z).trans hget; have hfz := fun o => frozen_blkR (Hbk.out o) Z; have Hb1 := Lib.hid hb1; clear hb1)
          clear hget
          refine still_tail 9 (by kernel_rfl) (by kernel_rfl) ?_
          simp only [List.take_succ_cons, List.take_zero, List.drop_succ_cons, List.drop_zero]
          repeat (first | still_call (hsz _) | still_step)
          try refine wpStill_nil ?_
          go_wp2
          go_roundw
          case rel => exact ⟨k + 1, by omega, by go_num, (blk_setCellR (Hbk.out _)).trans (by rw [Hnew.out, ← Hset.out, Int.natCast_add]), (below_refs Hb.out Hb1.out _).setCell (Nat.le_refl _) _ |>.drew⟩
          case measure => simp [intOf]; omega
        · have hnew : bytesTo g (k + 1) = bytesTo g k := by
            rw [Hstep.out]; unfold addE; rw [if_neg (fun q => hk3 q.1)]
          have Hnew := Lib.hid hnew
          clear hp Hstep hl hz hnew
          go_wp2_with (go_at_call 36; refine (hpar _).mono ?_; rintro e w1 ⟨hb1, rfl⟩; have hc2 := fun o => kept_new (j := 2) hb1 rfl o; have Hbk := Lib.hid (fun o => blk_step hb1 Hblk.out o); have Hb1 := Lib.hid hb1; clear hb1)
          go_roundw
          case rel => exact ⟨k + 1, by omega, by go_num, by rw [Hnew.out]; exact Hbk.out _, below_refs Hb.out Hb1.out _⟩
          case measure => simp [intOf]; omega
      · rw [parE_no (by simpa using hp)] at hpar
        have hnew : bytesTo g (k + 1) = bytesTo g k := by
          rw [Hstep.out]; unfold addE; rw [if_neg (fun q => hp q.2)]
        have Hnew := Lib.hid hnew
        clear hp hnew Hstep
        go_wp2_with (go_at_call 36; refine (hpar _).mono ?_; rintro e w1 ⟨hb1, rfl⟩; have hc2 := fun o => kept_new (j := 2) hb1 rfl o; have Hbk := Lib.hid (fun o => blk_step hb1 Hblk.out o); have Hb1 := Lib.hid hb1; clear hb1)
        all_goals
          go_roundw
          case rel => exact ⟨k + 1, by omega, by go_num, by rw [Hnew.out]; exact Hbk.out _, below_refs Hb.out Hb1.out _⟩
          case measure => simp [intOf]; omega
    · obtain rfl : k = n := by omega
      have hbk := Hblk.out
      have hb := Hb.out
      rw [← Hf.out] at hbk
      have hfl : ∀ z, f z ≤ 9223372036854775807 := fun z => by have := bytesTo_le g k z; rw [Hf.out]; omega
      have hai : (Try.prog.info? 35).map (·.size) = some (zArr f).size := by
        rw [show (zArr f).size = 64 by simp [zArr]]; kernel_rfl
      have Hai := Lib.hid hai
      have Hfl := Lib.hid hfl
      have Hbk := Lib.hid hbk
      clear hbk Hblk hfl hai
      go_wp2_with (with_reducible refine wpList_load_row rfl 35 (.tmp 3) rfl w.heap.size rfl 35 (zArr f) (0, 0) _ Hbk.out Try.underlying35 rfl Hai.out ?_)
      have Hb2 := Lib.hid hb
      clear hb
      go_loopw [8, 42] (fun out i wr => ∃ z : Nat, z ≤ 64 ∧ i = .int .i64 z ∧ wr.ownsRow w.heap.size 45 2 out (refsTo f z).length (flat refC (refsTo f z)) ∧ Below w.heap.size w wr) (fun _ i _ => 64 - (intOf i).toNat)
      case atStart => exact ⟨0, Nat.zero_le _, rfl, World.ownsRow_nil _ _ _ _, Hb2.out⟩
      case round =>
        obtain ⟨wq, rfl⟩ : ∃ wq : World, wq = wr := ⟨_, rfl⟩
        obtain ⟨z, hz, rfl, hown, hbq⟩ := hrel
        obtain ⟨oa, oc, rfl⟩ := own_slice hown
        have hll := refsTo_le f z
        by_cases hz2 : z < 64
        · have hget := fun W => index_arr f hz2 W
          have hFz := Hfl.out z
          have hzi : (z : Int) < 64 := by omega
          by_cases hpos : 0 < f z
          · have hnx : refsTo f (z + 1) = refsTo f z ++ [(z, f z)] := by
              show (if 0 < f z then _ else _) = _
              rw [if_pos hpos]
            have Hnx := Lib.hid hnx
            generalize hq : refsTo f z = sg at *
            have Hq := Lib.hid hq
            clear hnx hq
            generalize hFF : f z = F at *
            have hpi : 0 < (F : Int) := by omega
            have Hown := Lib.hid hown
            have Hbq := Lib.hid hbq
            clear hown hbq
            go_wp2_with (first | (at_builtin; refine wpList_append_own _ rfl (.tmp 48) (.tmp 52) 42 rfl w.heap.size 45 i0 (.agg #[.int .i64 0, .int .i64 0]) 2 16 Try.underlying42 Hi0.out Hz0.out Hz1.out Hz2.out rfl (by decide) _ sg.length _ rfl (Hown.out.alloc _) ⟨wq.heap.size, 0, none⟩ 1 1 [.int .i64 z, .int .i64 F] rfl rfl ?c1 ?c2 ?c3 ?c4 ?c5 ?_))
            case c1 => exact newsL _ _ rfl _ _ rfl
            case c2 => exact ref_one z F
            case c3 => unfold maxLen; omega
            case c4 => omega
            case c5 => have := Hbq.out.size; rw [World.size_alloc]; omega
            intro v' w1 hown' hgrow _
            have hg1 : Below w.heap.size w w1 := grow_own (Hbq.out.alloc Hbq.out.size _) (Hown.out.alloc _) hgrow (Nat.le_refl _) (by rw [World.size_alloc]; have := Hbq.out.size; omega)
            have h3 : w1.ownsRow w.heap.size 45 2 v' (refsTo f (z + 1)).length (flat refC (refsTo f (z + 1))) := by
              rw [Hnx.out, List.length_append, flat_append, flat_one]; exact hown'
            have H3 := Lib.hid h3
            have Hg1 := Lib.hid hg1
            clear hown' h3 hgrow hg1
            go_wp2
            go_roundw
            case rel => exact ⟨z + 1, by omega, by go_num, H3.out, Hg1.out⟩
            case measure => simp [intOf]; omega
          · have hnx : refsTo f (z + 1) = refsTo f z := by
              show (if 0 < f z then _ else _) = _
              rw [if_neg hpos]
            have Hnx := Lib.hid hnx
            generalize hq : refsTo f z = sg at *
            have Hq := Lib.hid hq
            clear hnx hq
            generalize hFF : f z = F at *
            have hpi : ¬ 0 < (F : Int) := by omega
            have Hown := Lib.hid hown
            have Hbq := Lib.hid hbq
            clear hown hbq
            go_wp2
            go_roundw
            case rel => exact ⟨z + 1, by omega, by go_num, by rw [Hnx.out]; exact Hown.out, Hbq.out⟩
            case measure => simp [intOf]; omega
        · obtain rfl : z = 64 := by omega
          generalize Value.slice oa (refsTo f 64).length oc = vv at *
          have Hown := Lib.hid hown
          have Hbq := Lib.hid hbq
          clear hown hbq
          go_wp2
          go_ret
          exact ⟨_, rfl, Hown.out, Hbq.out⟩
end Go.Proofs.Ytkjfjcigmmooiaa.Tithe
