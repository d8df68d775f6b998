/- A reader of bytes: Raw, Byte, Number, Done: walked. -/
import Derived.Test.YthjjelomlgmllaaSlice
import Derived.BigQuiet
import Derived.Lib.QuoteBits
import Derived.Laws.BitsAllLaws
namespace Go.Proofs.Ythjjelomlgmllaa.Tithe
open Go.RowKit Go.Sort
set_option linter.unusedVariables false
set_option maxRecDepth 100000
def byteC (x : Nat) : List Value := [.int .u8 x]
theorem byteC_len (x : Nat) : (byteC x).length = 1 := rfl
abbrev IsBs (w : World) (v : Value) (l : List Nat) : Prop := IsSl byteC 1 w v l
theorem cell_blkR {w : World} {b : Nat} {cs : Array Value} {t : TypeId} {fr : Nat × Nat} (h : w.heap[b]? = some (.cells cs t fr)) (i : Nat) : w.cell? ⟨b, i, none⟩ = cs[i]? := by
  simp [World.cell?, h]
theorem frozen_blkR {w : World} {b : Nat} {cs : Array Value} {t : TypeId} (h : w.heap[b]? = some (.cells cs t (0, 0))) (i : Nat) : w.frozen? ⟨b, i, none⟩ = false := by
  simp [World.frozen?, h]
theorem grown_setCellR (w : World) (g i : Nat) (v : Value) : w.grownBy (w.setCell ⟨g, i, none⟩ v) (some g) :=
  ⟨rfl, rfl, rfl, by simp [World.setCell], fun k _ hn => Below.heap_setCell w _ _ k (fun e => hn (by rw [e]))⟩
theorem blk_setCellR {V : World} {b i : Nat} {cs : Array Value} {ty : TypeId} {fr : Nat × Nat} {v : Value} (h : V.heap[b]? = some (.cells cs ty fr)) : (V.setCell ⟨b, i, none⟩ v).heap[b]? = some (.cells (cs.setIfInBounds i v) ty fr) := by
  simp [World.setCell, Array.getElem?_modify, h]
theorem grown_belowR {w w' : World} {B : Nat} {g : Nat} (h : w.grownBy w' (some g)) (hB : B ≤ g) (hs : B ≤ w.heap.size) : Below B w w' := ⟨h.os, h.tape, h.output, h.size, fun k hk => h.block k (by omega) (fun e => by cases e; omega)⟩
/-- nothing wrong, or an error's number -/
def chkE (ok : Bool) (e : Int) : Int := if ok then 0 else e
/-- a reader: its block; its bytes lie in an older world -/
structure IsRd (w0 w : World) (rb : Nat) (bs : List Nat) (bad : Bool) : Prop where
  ex : ∃ v, w.heap[rb]? = some (.cells #[v, .bool bad] 135 (0, 0)) ∧ IsBs w0 v bs
  below : Below w0.heap.size w0 w
  old : w0.heap.size ≤ rb
theorem IsRd.store1 {w0 w : World} {rb : Nat} {bs : List Nat} {bad : Bool} (h : IsRd w0 w rb bs bad) (b2 : Bool) : IsRd w0 (w.setCell ⟨rb, 1, none⟩ (.bool b2)) rb bs b2 := by
  obtain ⟨⟨v, hblk, hbs⟩, hbel, hold⟩ := h
  exact ⟨⟨v, by rw [blk_setCellR hblk]; rfl, hbs⟩, hbel.trans (grown_belowR (grown_setCellR _ _ _ _) hold hbel.size), hold⟩
theorem IsRd.store0 {w0 w : World} {rb : Nat} {bs bs2 : List Nat} {bad : Bool} (h : IsRd w0 w rb bs bad) (v2 : Value) (h2 : IsBs w0 v2 bs2) : IsRd w0 (w.setCell ⟨rb, 0, none⟩ v2) rb bs2 bad := by
  obtain ⟨⟨v, hblk, hbs⟩, hbel, hold⟩ := h
  exact ⟨⟨v2, by rw [blk_setCellR hblk]; rfl, h2⟩, hbel.trans (grown_belowR (grown_setCellR _ _ _ _) hold hbel.size), hold⟩
set_option maxHeartbeats 800000 in
theorem raw_bad (w0 w : World) (rb : Nat) (bs : List Nat) (bad : Bool) (n : Int) (h : IsRd w0 w rb bs bad) (hn : bad = true ∨ n < 0 ∨ (bs.length : Int) < n) :
    Calls Try.prog 87 #[.pointer (some ⟨rb, 0, none⟩), .int .i64 n] w fun e w' => e = .returned (.slice none 0 0) ∧ IsRd w0 w' rb bs true ∧ w.grownBy w' (some rb) := by
  have H := Lib.hid h
  obtain ⟨⟨v, hblk, hbs⟩, hbel, hold⟩ := h
  obtain ⟨a, c, rfl, -, -, -⟩ := id hbs
  have c0 : w.cell? ⟨rb, 0, none⟩ = some (.slice a bs.length c) := by rw [cell_blkR hblk]; rfl
  have c1 : w.cell? ⟨rb, 1, none⟩ = some (.bool bad) := by rw [cell_blkR hblk]; rfl
  have f1 : w.frozen? ⟨rb, 1, none⟩ = false := frozen_blkR hblk 1
  clear hblk hbs hbel hold
  have hfin := Lib.hid (H.out.store1 true)
  rcases hn with rfl | hn | hn
  · go_enter Try.func87, Try.ntmps87
    go_wp2
    go_ret
    exact ⟨rfl, hfin.out, grown_setCellR _ _ _ _⟩
  · cases bad with
    | true =>
      go_enter Try.func87, Try.ntmps87
      go_wp2
      go_ret
      exact ⟨rfl, hfin.out, grown_setCellR _ _ _ _⟩
    | false =>
      go_enter Try.func87, Try.ntmps87
      go_wp2
      go_ret
      exact ⟨rfl, hfin.out, grown_setCellR _ _ _ _⟩
  · cases bad with
    | true =>
      go_enter Try.func87, Try.ntmps87
      go_wp2
      go_ret
      exact ⟨rfl, hfin.out, grown_setCellR _ _ _ _⟩
    | false =>
      have hn0 : ¬ n < 0 := by omega
      go_enter Try.func87, Try.ntmps87
      go_wp2
      go_ret
      exact ⟨rfl, hfin.out, grown_setCellR _ _ _ _⟩
set_option maxHeartbeats 800000 in
theorem raw_ok (w0 w : World) (rb : Nat) (bs : List Nat) (k : Nat) (h : IsRd w0 w rb bs false) (hk1 : 1 ≤ k) (hk : k ≤ bs.length) :
    Calls Try.prog 87 #[.pointer (some ⟨rb, 0, none⟩), .int .i64 k] w fun e w' => ∃ b off, e = .returned (.slice (some ⟨b, off, none⟩) k k) ∧ IsBs w0 (.slice (some ⟨b, off, none⟩) k k) (bs.take k) ∧ IsRd w0 w' rb (bs.drop k) false ∧ w.grownBy w' (some rb) := by
  have H := Lib.hid h
  obtain ⟨⟨v, hblk, hbs⟩, hbel, hold⟩ := h
  obtain ⟨a, c, rfl, -, -, -⟩ := id hbs
  obtain ⟨-, hc, hm, hx⟩ := hbs.at
  obtain ⟨b, off, rfl, hcell⟩ := hx (by omega)
  have c0 : w.cell? ⟨rb, 0, none⟩ = some (.slice (some ⟨b, off, none⟩) bs.length c) := by rw [cell_blkR hblk]; rfl
  have c1 : w.cell? ⟨rb, 1, none⟩ = some (.bool false) := by rw [cell_blkR hblk]; rfl
  have f0 : w.frozen? ⟨rb, 0, none⟩ = false := frozen_blkR hblk 0
  have htake : IsBs w0 (.slice (some ⟨b, off, none⟩) k k) (bs.take k) := by
    refine ⟨_, _, by rw [List.length_take]; congr 1; omega, by rw [List.length_take]; omega, by unfold maxLen; omega, fun _ => ⟨_, _, rfl, fun i x hi j y hj => ?_⟩⟩
    rw [List.getElem?_take] at hi
    split at hi
    · exact hcell i x hi j y hj
    · cases hi
  have Htake := Lib.hid htake
  have hdrop : ∀ (a2 : Option Addr), (c = k ∨ a2 = some ⟨b, off + k, none⟩) → IsBs w0 (.slice a2 (bs.length - k) (c - k)) (bs.drop k) := by
    intro a2 h2
    by_cases q : bs.length = k
    · rw [List.drop_of_length_le (by omega), q, Nat.sub_self]
      exact isSl_nil _ _ _ _ _ (by unfold maxLen; omega)
    · rcases h2 with h2 | rfl
      · omega
      · have := hbs.drop k hk (c - k) rfl
        rw [Nat.mul_one] at this
        exact this
  have Hdrop := Lib.hid hdrop
  have n0 : ¬ ((k : Int) < 0) := by omega
  have n1 : ¬ ((bs.length : Int) < (k : Int)) := by omega
  have n2 : k ≤ c := by omega
  have n3 : ¬ k = 0 := by omega
  clear hblk hbs hbel hold hx hcell htake hdrop
  by_cases hck : c = k
  · subst hck
    go_enter Try.func87, Try.ntmps87
    go_wp2
    go_ret
    have hd := Hdrop.out (some ⟨b, off, none⟩) (.inl (by simp))
    have e1 : bs.length - c = 0 := by omega
    rw [e1, Nat.sub_self] at hd
    refine ⟨b, off, rfl, Htake.out, H.out.store0 _ ?_, grown_setCellR _ _ _ _⟩
    first | exact hd | (rw [e1]; exact hd) | (rw [e1, Nat.sub_self]; exact hd)
  · have hck2 := Lib.hid hck
    go_enter Try.func87, Try.ntmps87
    go_wp2
    go_ret
    exact ⟨b, off, rfl, Htake.out, H.out.store0 _ (Hdrop.out (some ⟨b, off + k, none⟩) (.inr rfl)), grown_setCellR _ _ _ _⟩
theorem byte_none (w0 w : World) (rb : Nat) (bs : List Nat) (bad : Bool) (h : IsRd w0 w rb bs bad) (hb : bad = true ∨ bs = []) :
    Calls Try.prog 73 #[.pointer (some ⟨rb, 0, none⟩)] w fun e w' => e = .returned (.int .u8 0) ∧ IsRd w0 w' rb bs true ∧ w.grownBy w' (some rb) := by
  have hr := raw_bad w0 w rb bs bad 1 h (by rcases hb with hb | hb; exact .inl hb; exact .inr (.inr (by rw [hb]; decide)))
  have Hr := Lib.hid hr
  clear hr h hb
  go_enter Try.func73, Try.ntmps73
  go_wp2_with fail
  refine Hr.out.mono ?_
  rintro e w2 ⟨rfl, h2, hg⟩
  have hs : ∀ w : World, (binOp .eql 34 (.slice none 0 0) (.slice none 0 0)).run Try.prog w = .ok (.bool true) w := fun _ => rfl
  go_wp2
  go_ret
  exact ⟨rfl, h2, hg⟩
theorem byte_some (w0 w : World) (rb : Nat) (x : Nat) (bs : List Nat) (h : IsRd w0 w rb (x :: bs) false) :
    Calls Try.prog 73 #[.pointer (some ⟨rb, 0, none⟩)] w fun e w' => e = .returned (.int .u8 x) ∧ IsRd w0 w' rb bs false ∧ w.grownBy w' (some rb) := by
  have hr := raw_ok w0 w rb (x :: bs) 1 h (Nat.le_refl _) (by simp)
  have Hr := Lib.hid hr
  clear hr h
  go_enter Try.func73, Try.ntmps73
  go_wp2_with fail
  refine Hr.out.mono ?_
  rintro e w2 ⟨b, off, rfl, h1, h2, hg⟩
  have hs : ∀ w : World, (binOp .eql 34 (.slice (some ⟨b, off, none⟩) 1 1) (.slice none 0 0)).run Try.prog w = .ok (.bool false) w := fun _ => rfl
  have hc0 : w2.cell? ⟨b, off, none⟩ = some (.int .u8 x) := by
    obtain ⟨b', o', e, hcell⟩ := h1.at.2.2.2 (by decide)
    injection e with e
    injection e with e1 e2
    subst e1 e2
    have hc := hcell 0 x rfl 0 _ rfl
    exact (h2.below.cell (block_lt_of_cell hc)).trans hc
  have H2 := Lib.hid h2
  have Hg := Lib.hid hg
  clear h1 h2 hg
  go_wp2
  go_ret
  exact ⟨rfl, H2.out, Hg.out⟩
theorem done_any (w0 w : World) (rb : Nat) (bs : List Nat) (bad : Bool) (h : IsRd w0 w rb bs bad) :
    Calls Try.prog 46 #[.pointer (some ⟨rb, 0, none⟩)] w fun e w' => e = .returned (.int .i64 (chkE (!bad && bs.isEmpty) 20)) ∧ w' = w := by
  obtain ⟨⟨v, hblk, hbs⟩, hbel, hold⟩ := h
  obtain ⟨a, c, rfl, -, -, -⟩ := id hbs
  have c0 : w.cell? ⟨rb, 0, none⟩ = some (.slice a bs.length c) := by rw [cell_blkR hblk]; rfl
  have c1 : w.cell? ⟨rb, 1, none⟩ = some (.bool bad) := by rw [cell_blkR hblk]; rfl
  clear hblk hbs hbel hold
  cases bad with
  | true =>
    go_enter Try.func46, Try.ntmps46
    go_wp2
    go_ret
    exact ⟨rfl, rfl⟩
  | false =>
    cases bs with
    | nil =>
      rw [List.length_nil] at c0
      go_enter Try.func46, Try.ntmps46
      go_wp2
      go_ret
      exact ⟨rfl, rfl⟩
    | cons x bs =>
      obtain ⟨n, hn⟩ : ∃ n, n = (x :: bs).length := ⟨_, rfl⟩
      rw [← hn] at c0
      have hn0 : 0 < n := by rw [hn]; simp
      clear hn
      go_enter Try.func46, Try.ntmps46
      go_wp2
      go_ret
      exact ⟨rfl, rfl⟩
/-- a number read: itself, what is left, whether it was wrong -/
def rdN : Nat → Nat → Nat → List Nat → Nat × List Nat × Bool
  | 0, _, _, bs => (0, bs, true)
  | _ + 1, _, _, [] => (0, [], true)
  | f + 1, i, acc, x :: bs => if x < 128 then (if x = 0 ∧ 0 < i then (0, bs, true) else (acc + (x % 128) * 2 ^ (7 * i), bs, false)) else rdN f (i + 1) (acc + (x % 128) * 2 ^ (7 * i)) bs
def numR (bs : List Nat) : Nat × List Nat × Bool := rdN 9 0 0 bs
theorem pow7 {i : Nat} (hi : i < 9) : 2 ^ (7 * i) ≤ 72057594037927936 := by
  have : 2 ^ (7 * i) ≤ 2 ^ 56 := Nat.pow_le_pow_right (by omega) (by omega)
  simpa using this
theorem num_step (acc x i : Nat) (hi : i < 9) (hacc : acc < 2 ^ (7 * i)) (hx : x < 256) :
    bits BinOp.or IntKind.i64 (acc : Int) (wrap64 (wrap64 (bits BinOp.and IntKind.u8 (x : Int) 127) * 2 ^ (7 * i))) = ((acc + x % 128 * 2 ^ (7 * i) : Nat) : Int) := by
  have hp := pow7 hi
  have a1 : bits BinOp.and IntKind.u8 (x : Int) 127 = ((x % 128 : Nat) : Int) := by
    rw [show (127 : Int) = ((127 : Nat) : Int) from rfl, u8_and_nat x 127 hx (by decide)]
    congr 1
    exact Nat.and_two_pow_sub_one_eq_mod x 7
  have a2 : wrap64 ((x % 128 : Nat) : Int) = ((x % 128 : Nat) : Int) := by unfold wrap64; omega
  have hy : x % 128 * 2 ^ (7 * i) ≤ 127 * 72057594037927936 := Nat.mul_le_mul (by omega) hp
  have a3 : wrap64 (((x % 128 : Nat) : Int) * 2 ^ (7 * i)) = ((x % 128 * 2 ^ (7 * i) : Nat) : Int) := by
    have e : ((x % 128 : Nat) : Int) * 2 ^ (7 * i) = ((x % 128 * 2 ^ (7 * i) : Nat) : Int) := by simp
    rw [e]
    generalize x % 128 * 2 ^ (7 * i) = y at *
    unfold wrap64
    omega
  rw [a1, a2, a3]
  have h4 : acc ||| (x % 128 * 2 ^ (7 * i)) = acc + x % 128 * 2 ^ (7 * i) := by
    rw [Nat.or_comm, Nat.mul_comm, ← Nat.two_pow_add_eq_or_of_lt hacc, Nat.add_comm]
  generalize x % 128 * 2 ^ (7 * i) = y at *
  show IntKind.i64.wrap ((BitVec.ofInt 64 (acc : Int) ||| BitVec.ofInt 64 (y : Int)).toNat : Int) = _
  rw [BitVec.toNat_or, ofInt_u64 acc (by omega), ofInt_u64 y (by omega), h4]
  exact Lib.wrap_i64_small _ (by omega)
theorem num_lt {acc x i : Nat} (hacc : acc < 2 ^ (7 * i)) : acc + x % 128 * 2 ^ (7 * i) < 2 ^ (7 * (i + 1)) := by
  have e : 2 ^ (7 * (i + 1)) = 128 * 2 ^ (7 * i) := by rw [Nat.mul_add, Nat.mul_one, Nat.pow_add]; omega
  rw [e]
  have h1 : x % 128 ≤ 127 := by omega
  have h2 : x % 128 * 2 ^ (7 * i) ≤ 127 * 2 ^ (7 * i) := Nat.mul_le_mul h1 (Nat.le_refl _)
  omega
set_option maxHeartbeats 1600000 in
theorem number_any (w0 w : World) (rb : Nat) (bs : List Nat) (h : IsRd w0 w rb bs false) (hb : ∀ x ∈ bs, x < 256) :
    Calls Try.prog 42 #[.pointer (some ⟨rb, 0, none⟩)] w fun e w' => e = .returned (.int .i64 (numR bs).1) ∧ IsRd w0 w' rb (numR bs).2.1 (numR bs).2.2 ∧ w.grownBy w' (some rb) := by
  have H := Lib.hid h
  have Hb := Lib.hid hb
  clear h hb
  go_enter Try.func42, Try.ntmps42
  go_wp2
  go_loopw [3, 6] (fun nv iv wr => ∃ (i acc : Nat) (cs : List Nat), i ≤ 9 ∧ iv = .int .i64 i ∧ nv = .int .i64 acc ∧ acc < 2 ^ (7 * i) ∧ (∀ x ∈ cs, x < 256) ∧ numR bs = rdN (9 - i) i acc cs ∧ IsRd w0 wr rb cs false ∧ w.grownBy wr (some rb)) (fun _ iv _ => 9 - (intOf iv).toNat)
  case atStart => exact ⟨0, 0, bs, by omega, rfl, rfl, by decide, Hb.out, rfl, H.out, World.grownBy.refl _ _⟩
  case round =>
    obtain ⟨wo, rfl⟩ : ∃ wo : World, wo = wr := ⟨_, rfl⟩
    obtain ⟨i, acc, cs, hi, rfl, rfl, hacc, hcs, hnum, hrd, hg⟩ := hrel
    have Hnum := Lib.hid hnum
    have Hg := Lib.hid hg
    have Hacc := Lib.hid hacc
    have Hcs := Lib.hid hcs
    clear hnum hg hacc hcs
    by_cases hi9 : i < 9
    · have Hrd := Lib.hid hrd
      clear hrd
      cases cs with
      | nil =>
        have hbn := byte_none w0 wo rb [] false Hrd.out (.inr rfl)
        have Hbn := Lib.hid hbn
        clear hbn
        go_wp2_with fail
        refine Hbn.out.mono ?_
        rintro e w2 ⟨rfl, h2, hg2⟩
        have c1 : w2.cell? ⟨rb, 1, none⟩ = some (.bool true) := by
          obtain ⟨⟨v, hblk, -⟩, -, -⟩ := h2
          rw [cell_blkR hblk]; rfl
        have hfin : numR bs = (0, [], true) := by
          rw [Hnum.out, show 9 - i = (8 - i) + 1 by omega]; rfl
        have Hfin := Lib.hid hfin
        have H2 := Lib.hid h2
        have Hg2 := Lib.hid (Hg.out.trans hg2)
        clear hfin h2 hg2
        go_wp2
        go_ret
        rw [Hfin.out]
        exact ⟨rfl, H2.out, Hg2.out⟩
      | cons x cs =>
        have hbn := byte_some w0 wo rb x cs Hrd.out
        have Hbn := Lib.hid hbn
        clear hbn
        have hx256 : x < 256 := Hcs.out x (by simp)
        go_wp2_with fail
        refine Hbn.out.mono ?_
        rintro e w2 ⟨rfl, h2, hg2⟩
        have c1 : w2.cell? ⟨rb, 1, none⟩ = some (.bool false) := by
          obtain ⟨⟨v, hblk, -⟩, -, -⟩ := h2
          rw [cell_blkR hblk]; rfl
        have H2 := Lib.hid h2
        have Hg2 := Lib.hid (Hg.out.trans hg2)
        clear h2 hg2
        have hE := num_step acc x i hi9 Hacc.out hx256
        have hlt' := num_lt (x := x) Hacc.out
        have hstep : numR bs = rdN ((8 - i) + 1) i acc (x :: cs) := by rw [Hnum.out, show 9 - i = (8 - i) + 1 by omega]
        have hcs' : ∀ y ∈ cs, y < 256 := fun y hy => Hcs.out y (by simp [hy])
        have Hcs' := Lib.hid hcs'
        obtain ⟨acc', hacc'⟩ : ∃ acc', acc' = acc + x % 128 * 2 ^ (7 * i) := ⟨_, rfl⟩
        rw [← hacc'] at hE hlt'
        have Hstep := Lib.hid hstep
        have Hlt := Lib.hid hlt'
        have Hacc' := Lib.hid hacc'
        clear hstep hcs' hlt' hacc'
        by_cases hx128 : x < 128
        · by_cases hx0 : x = 0
          · subst hx0
            by_cases hi0 : 0 < i
            · have hfin : numR bs = (0, cs, true) := by rw [Hstep.out]; simp [rdN, hi0]
              have Hfin := Lib.hid hfin
              have f1 : w2.frozen? ⟨rb, 1, none⟩ = false := by
                obtain ⟨⟨v, hblk, -⟩, -, -⟩ := H2.out
                exact frozen_blkR hblk 1
              have H3 := Lib.hid (H2.out.store1 true)
              clear hfin
              go_wp2
              go_ret
              rw [Hfin.out]
              exact ⟨rfl, H3.out, Hg2.out.trans (grown_setCellR _ _ _ _)⟩
            · obtain rfl : i = 0 := by omega
              have hacc0 : acc = 0 := by
                have := Hacc.out
                simpa using this
              have hfin : numR bs = (0, cs, false) := by rw [Hstep.out, hacc0]; simp [rdN]
              have Hfin := Lib.hid hfin
              have hz : bits BinOp.or IntKind.i64 (acc : Int) (wrap64 (wrap64 (bits BinOp.and IntKind.u8 0 127))) = 0 := by rw [hacc0]; have := num_step 0 0 0 (by decide) (by decide) (by decide); simpa using this
              have Hz := Lib.hid hz
              clear hfin hE hacc0 hz
              go_wp2
              go_ret
              rw [Hfin.out]
              refine ⟨?_, H2.out, Hg2.out⟩
              exact congrArg (fun z => Ending.returned (Value.int IntKind.i64 z)) Hz.out
          · have hx1 : (((x : Int)) == 0) = false := by rw [beq_eq_false_iff_ne]; omega
            have hfin : numR bs = (acc', cs, false) := by rw [Hstep.out, Hacc'.out]; simp [rdN, hx128, hx0]
            have Hfin := Lib.hid hfin
            clear hfin hx0
            go_wp2
            go_ret
            rw [Hfin.out]
            exact ⟨by first | rfl | (rw [hE]; rfl), H2.out, Hg2.out⟩
        · have hnx : numR bs = rdN (9 - (i + 1)) (i + 1) acc' cs := by
            rw [Hstep.out, Hacc'.out, show 9 - (i + 1) = 8 - i by omega]
            simp [rdN, hx128]
          have Hnx := Lib.hid hnx
          clear hnx
          go_wp2
          go_roundw
          case rel => exact ⟨i + 1, acc', cs, by omega, by go_num, by first | rfl | (rw [hE]), Hlt.out, Hcs'.out, Hnx.out, H2.out, Hg2.out⟩
          case measure => simp [intOf]; omega
    · obtain rfl : i = 9 := by omega
      have hfin : numR bs = (0, cs, true) := by rw [Hnum.out]; rfl
      have Hfin := Lib.hid hfin
      have c1 : wo.cell? ⟨rb, 1, none⟩ = some (.bool false) := by
        obtain ⟨⟨v, hblk, -⟩, -, -⟩ := hrd
        rw [cell_blkR hblk]; rfl
      have f1 : wo.frozen? ⟨rb, 1, none⟩ = false := by
        obtain ⟨⟨v, hblk, -⟩, -, -⟩ := hrd
        exact frozen_blkR hblk 1
      have H3 := Lib.hid (hrd.store1 true)
      clear hfin hrd
      go_wp2
      go_ret
      rw [Hfin.out]
      exact ⟨rfl, H3.out, Hg.out.trans (grown_setCellR _ _ _ _)⟩
end Go.Proofs.Ythjjelomlgmllaa.Tithe
