/- The law BloomParses, walked. -/
import Derived.Test.YtkdipflmmlnbpaaDoorBloomParse
import Derived.Test.YtkdipflmmlnbpaaDoorBloomPlaces
import Derived.StillTailTactics
import Derived.Deep.RegionHeld3
namespace Go.Proofs.YtkdipflmmlnbpaaDoor.Tithe
open Go.RowKit Go.Sort Go.Shelf
set_option linter.unusedVariables false
theorem parses_long (v v' : Value) (l m : List Nat) (w : World) (h : IsBytes w v l) (h' : IsBytes w v' m) (ht : TabOk w) (hs : 5000 < l.length ∨ 500 < m.length) :
    Calls Tryd.prog 7 #[v, v'] w fun e w' => e = .returned (.bool true) ∧ Below w.heap.size w w' := by
  have Ht := Lib.hid ht
  obtain ⟨h8, a, c, rfl, g1, g2, h3⟩ := h
  obtain ⟨h8', a', c', rfl, g1', g2', h3'⟩ := h'
  unfold maxLen at g2 g2'
  clear h3 h3' ht h8 h8'
  by_cases q : (5000 : Int) < (l.length : Int)
  · clear hs
    go_enter Tryd.func7, Tryd.ntmps7
    go_wp2_with fail
    refine (awake_any w Ht.out).mono ?_
    rintro e w' ⟨rfl, hb⟩
    go_wp2
    go_ret
    exact ⟨rfl, hb⟩
  · have q' : (500 : Int) < (m.length : Int) := by omega
    clear hs
    go_enter Tryd.func7, Tryd.ntmps7
    go_wp2_with fail
    refine (awake_any w Ht.out).mono ?_
    rintro e w' ⟨rfl, hb⟩
    go_wp2
    go_ret
    exact ⟨rfl, hb⟩
theorem parses_short (v v' : Value) (l m : List Nat) (w : World) (h : IsBytes w v l) (h' : IsBytes w v' m) (ht : TabOk w) (hs : (l.length : Int) ≤ 8) (hm : (m.length : Int) ≤ 500) :
    Calls Tryd.prog 7 #[v, v'] w fun e w' => e = .returned (.bool true) ∧ Below w.heap.size w w' := by
  have Ht := Lib.hid ht
  have HP := Lib.hid (parse_short v l w h hs)
  obtain ⟨h8, a, c, rfl, g1, g2, h3⟩ := h
  obtain ⟨h8', a', c', rfl, g1', g2', h3'⟩ := h'
  unfold maxLen at g2 g2'
  clear h3 h3' ht h8 h8'
  go_enter Tryd.func7, Tryd.ntmps7
  go_wp2_with fail
  refine HP.out.mono ?_
  rintro e w' ⟨rfl, rfl⟩
  go_wp2_with fail
  refine (awake_any w Ht.out).mono ?_
  rintro e w' ⟨rfl, hb⟩
  go_wp2
  go_ret
  exact ⟨rfl, hb⟩
theorem parses_odd (b off c : Nat) (v' : Value) (l m : List Nat) (w : World) (h : IsBytes w (.slice (some ⟨b, off, none⟩) l.length c) l) (h' : IsBytes w v' m) (ht : TabOk w) (hs : (8 : Int) < l.length) (hl : (l.length : Int) ≤ 5000) (hm : (m.length : Int) ≤ 500) (h1 : (l.getD 0 0 : Int) < 1 ∨ (30 : Int) < (l.getD 0 0 : Int)) :
    Calls Tryd.prog 7 #[.slice (some ⟨b, off, none⟩) l.length c, v'] w fun e w' => e = .returned (.bool true) ∧ Below w.heap.size w w' := by
  have Ht := Lib.hid ht
  have HP := Lib.hid (parse_odd b off c l w h hs (by omega) h1)
  obtain ⟨h8, a, c', e, g1, g2, h3⟩ := h
  injection e with e1 e2 e3
  subst e1 e3
  obtain ⟨h8', a', c', rfl, g1', g2', h3'⟩ := h'
  obtain ⟨b', off', ha, hc⟩ := h3 (by rintro rfl; simp at hs)
  injection ha with ha
  injection ha with e1 e4
  subst e1 e4
  have h0 := hc 0 (by omega)
  rw [Nat.add_zero] at h0
  generalize l.getD 0 0 = x at *
  unfold maxLen at g2 g2'
  clear h3 h3' ht h8 h8' hc e2
  have hq : ((x : Int) < 1) ∨ ((1 : Int) ≤ (x : Int) ∧ (30 : Int) < (x : Int)) := by omega
  clear h1
  rcases hq with q | ⟨q, q'⟩
  all_goals
    go_enter Tryd.func7, Tryd.ntmps7
    go_wp2_with fail
    refine HP.out.mono ?_
    rintro e w' ⟨rfl, rfl⟩
    go_wp2_with fail
    refine (awake_any w Ht.out).mono ?_
    rintro e w' ⟨rfl, hb⟩
    go_wp2
    go_ret
    exact ⟨rfl, hb⟩
theorem hasL_snoc (cs : List Nat) (c d n k : Nat) : hasL cs (places c d n (k + 1)) = (hasL cs (places c d n k) && testB cs (placeAt c d n k)) := by
  rw [places_succ]; simp [hasL, List.all_append]
theorem bit_one_off (x r : Nat) (hx : x < 256) (h : x.testBit r = false) : (bits BinOp.and IntKind.u8 ((x : Int) / 2 ^ r) 1 == 1) = false := by
  rw [and_bit x r hx]
  rw [Nat.testBit_eq_decide_div_mod_eq] at h
  generalize x / 2 ^ r = y at *
  rcases Nat.mod_two_eq_zero_or_one y with e | e <;> rw [e] at h ⊢ <;> simp at h ⊢
theorem bit_one_on (x r : Nat) (hx : x < 256) (h : x.testBit r = true) : (bits BinOp.and IntKind.u8 ((x : Int) / 2 ^ r) 1 == 1) = true := by
  rw [and_bit x r hx]
  rw [Nat.testBit_eq_decide_div_mod_eq] at h
  generalize x / 2 ^ r = y at *
  rcases Nat.mod_two_eq_zero_or_one y with e | e <;> rw [e] at h ⊢ <;> simp at h ⊢
set_option maxHeartbeats 800000 in
theorem parses_yes (b off c : Nat) (ka : Option Addr) (kc : Nat) (l m : List Nat) (w : World) (h : IsBytes w (.slice (some ⟨b, off, none⟩) l.length c) l) (h' : IsBytes w (.slice ka m.length kc) m) (ht : TabOk w) (hs : (8 : Int) < l.length) (hl : (l.length : Int) ≤ 5000) (hm : (m.length : Int) ≤ 500) (h1 : (1 : Int) ≤ (l.getD 0 0 : Int)) (h30 : (l.getD 0 0 : Int) ≤ 30) :
    Calls Tryd.prog 7 #[.slice (some ⟨b, off, none⟩) l.length c, .slice ka m.length kc] w fun e w' => e = .returned (.bool true) ∧ Below w.heap.size w w' := by
  have Ht := Lib.hid ht
  have H := Lib.hid h
  have H' := Lib.hid h'
  have HP := Lib.hid (parse_yes b off c l w h hs (by omega) h1 h30)
  obtain ⟨h8, a, c', e, g1, g2, h3⟩ := h
  injection e with e1 e2 e3
  subst e1 e3
  obtain ⟨h8', a', c', e, g1', g2', h3'⟩ := h'
  injection e with e1 e2' e3
  subst e1 e3
  obtain ⟨b', off', ha, hc⟩ := h3 (by rintro rfl; simp at hs)
  injection ha with ha
  injection ha with e1 e4
  subst e1 e4
  have h0 := hc 0 (by omega)
  rw [Nat.add_zero] at h0
  obtain ⟨x, cs, rfl⟩ : ∃ x cs, l = x :: cs := by
    cases l with
    | nil => simp at hs
    | cons x cs => exact ⟨x, cs, rfl⟩
  have HC := Lib.hid hc
  replace h0 : w.cell? ⟨b, off, none⟩ = some (.int .u8 x) := h0
  replace h1 : (1 : Int) ≤ (x : Int) := h1
  replace h30 : (x : Int) ≤ 30 := h30
  replace HP : Hid (Calls Tryd.prog 26 #[.slice (some ⟨b, off, none⟩) (x :: cs).length c] w fun e w' => ∃ fb gb cap, e = .returned (.tuple #[.pointer (some ⟨fb, 0, none⟩), .int .i64 0]) ∧ IsFilter w' fb gb cap cs x ∧ Below w.heap.size w w' ∧ w.heap.size ≤ fb ∧ w.heap.size ≤ gb) := HP
  unfold maxLen at g2 g2'
  clear h3 h3' ht h8 h8' hc e2 e2'
  generalize hn : (x :: cs).length = n at *
  have HN := Lib.hid (show n = cs.length + 1 from by rw [← hn, List.length_cons])
  clear hn
  go_enter Tryd.func7, Tryd.ntmps7
  go_wp2_with fail
  refine HP.out.mono ?_
  rintro e w1 ⟨fb, gb, cap, rfl, hf1, hb1, hfb, hgb⟩
  have h01 : w1.cell? ⟨b, off, none⟩ = some (.int .u8 x) := by rw [hb1.cell (block_lt_of_cell h0)]; exact h0
  have hdrew : Below w1.heap.size w1 w1.drew := (Below.refl _ _).drew
  have h01d : w1.drew.cell? ⟨b, off, none⟩ = some (.int .u8 x) := by rw [hdrew.cell (block_lt_of_cell h01)]; exact h01
  have HF1 := Lib.hid hf1
  have HFd := Lib.hid (hf1.below (B := 0) hdrew)
  have hl1 : w.heap.size ≤ w1.heap.size := hb1.size
  have hbwd : Below w.heap.size w w1.drew := hb1.trans (hdrew.mono hl1)
  have HBd := Lib.hid (H.out.below hbwd)
  have hn8 : (8 * cs.length : Nat) = 8 * n - 8 := by have := HN.out; omega
  have cQ : Hid (Calls Tryd.prog 20 #[.pointer (some ⟨fb, 0, none⟩)] w1.drew fun e w' => e = .returned (.int .i64 x) ∧ w1.drew = w') := probes_any _ _ _ _ _ _ HFd.out
  have cB : Hid (Calls Tryd.prog 14 #[.pointer (some ⟨fb, 0, none⟩)] w1.drew fun e w' => e = .returned (.int .i64 (8 * n - 8)) ∧ w1.drew = w') := by
    have := bits_any _ _ _ _ _ _ HFd.out
    rw [show ((8 * cs.length : Nat) : Int) = 8 * (n : Int) - 8 from by have := HN.out; omega] at this
    exact this
  have cY : Hid (Calls Tryd.prog 22 #[.pointer (some ⟨fb, 0, none⟩)] w1.drew fun e w2 => ∃ g cap2, e = .returned (.slice (some ⟨g, 0, none⟩) n cap2) ∧ IsBytes w2 (.slice (some ⟨g, 0, none⟩) n cap2) (x :: cs) ∧ Below w1.heap.size w1.drew w2) := by
    refine (bytes_any _ _ _ _ _ _ HFd.out).mono ?_
    rintro e w2 ⟨y, rfl, ho, hb⟩
    obtain ⟨g, cap2, rfl, _⟩ := own_form ho (by simp)
    have hx2 := isBytes_own ho H.out.1
    have e : (x :: cs).length = n := by rw [HN.out, List.length_cons]
    rw [e] at hx2 ⊢
    exact ⟨g, cap2, rfl, hx2, hb⟩
  clear hf1 hn8
  go_wp2
  have HBb := Lib.hid hbwd
  clear h01 hdrew h0 hbwd
  have hwx : IntKind.i64.wrap (x : Int) = (x : Int) := IntWalk.i64_in _ (by omega)
  have hw8 : IntKind.i64.wrap (8 * (n : Int)) = 8 * (n : Int) := IntWalk.i64_in _ (by omega)
  have hw9 : IntKind.i64.wrap (8 * (n : Int) - 8) = 8 * (n : Int) - 8 := IntWalk.i64_in _ (by omega)
  have h01d' := Lib.hid h01d
  have hbl := Lib.hid (block_lt_of_cell h01d)
  go_region_held3 (fun w' => w'.cell? ⟨b, off, none⟩ = some (.int .u8 x))
    (first | go_keep | (exact (World.cell?_of_block (w := w1.drew) (hb2.block b hbl.out)).trans h01d'.out))
    ((first | (go_at_call 20; (with_reducible refine cQ.out.mono ?_); rintro e w' ⟨rfl, rfl⟩) | (go_at_call 14; (with_reducible refine cB.out.mono ?_); rintro e w' ⟨rfl, rfl⟩) | (go_at_call 22; (with_reducible refine cY.out.mono ?_); rintro e w2 ⟨g, cap2, rfl, hx2, hb2⟩; have hx2 := Lib.hid hx2) | (go_at_call 19; refine (same_true _ _ (x :: cs) _ hx2.out (HBd.out.below hb2)).mono ?_; rintro e w' ⟨rfl, rfl⟩)))
  all_goals
    have hs2 : w1.heap.size ≤ w2.heap.size := hb2.size
    have hb2f : Below w1.drew.heap.size w1.drew w2 := hb2
    have HF2 := Lib.hid (HFd.out.below (B := 0) hb2f)
    have hbw2 : Below w.heap.size w w2 := HBb.out.trans (hb2.mono hl1)
    have hsw2 : w.heap.size ≤ w2.heap.size := hbw2.size
    have h02 : w2.cell? ⟨b, off, none⟩ = some (.int .u8 x) := by rw [hb2f.cell hbl.out]; exact h01d'.out
    have eN : (8 * cs.length : Nat) = 8 * n - 8 := by have := HN.out; omega
    have cB2 : Hid (Calls Tryd.prog 14 #[.pointer (some ⟨fb, 0, none⟩)] w2 fun e w' => e = .returned (.int .i64 ((8 * cs.length : Nat) : Int)) ∧ w2 = w') := bits_any _ _ _ _ _ _ HF2.out
    have cQ2 : Hid (Calls Tryd.prog 20 #[.pointer (some ⟨fb, 0, none⟩)] w2 fun e w' => e = .returned (.int .i64 x) ∧ w2 = w') := probes_any _ _ _ _ _ _ HF2.out
    have hpos := HF2.out.pos
    have hmost := HF2.out.most
    have Hk2 := Lib.hid (H'.out.below hbw2)
    have EN := Lib.hid eN
    clear eN hw8 hw9 hwx HBd cQ cB cY HP HFd HF1 h01d
    go_wp2_with fail
    refine cB2.out.mono ?_
    rintro e w' ⟨rfl, rfl⟩
    go_wp2_with fail
    refine cQ2.out.mono ?_
    rintro e w' ⟨rfl, rfl⟩
    go_wp2_with fail
    refine (refplaces_any _ m (8 * cs.length) x w2 Hk2.out (by omega) (by omega) (by omega)).mono ?_
    rintro e w3 ⟨y, rfl, ho3, hb3⟩
    obtain ⟨gy, cy, rfl, hgy⟩ := own_form' ho3 (by omega)
    have Ho3 := Lib.hid ho3
    have Hh3 := Lib.hid (show h02 = h02 from rfl)
    have h03 : w3.cell? ⟨b, off, none⟩ = some (.int .u8 x) := by rw [hb3.cell (block_lt_of_cell h02)]; exact h02
    have hbw3 : Below w.heap.size w w3 := hbw2.trans (hb3.mono hsw2)
    have hsw3 : w.heap.size ≤ w3.heap.size := hbw3.size
    have Hb3 := Lib.hid hb3
    have Hbw3 := Lib.hid hbw3
    clear ho3 hb3 hbw3 cB2 cQ2
    go_wp2_with fail
    have e1 : Hid (hasL cs (places (keyC m) (keyD m) (8 * cs.length) 0) = true) := by show _ = _; rfl
    go_loopw [7, 86] (fun h i wr => ∃ k : Nat, k ≤ x ∧ i = .int .i64 k ∧ h = .bool (hasL cs (places (keyC m) (keyD m) (8 * cs.length) k)) ∧ Below w3.heap.size w3 wr) (fun _ i _ => x - (intOf i).toNat)
    case atStart => exact ⟨0, Nat.zero_le _, rfl, by rw [e1.out], Below.refl _ _⟩
    case round =>
      obtain ⟨k, hk, rfl, rfl, hb⟩ := hrel
      have hwr : w3.heap.size ≤ wr.heap.size := hb.size
      by_cases hlt : k < x
      · have hlen : (keyPlaces m (8 * cs.length) x).length = x := by simp [keyPlaces, places]
        have hkl : k < (keyPlaces m (8 * cs.length) x).length := by omega
        have hy0 := own_cells Ho3.out hkl
        have hqe : (keyPlaces m (8 * cs.length) x)[k] = placeAt (keyC m) (keyD m) (8 * cs.length) k := by simp [keyPlaces, places]
        have hqn : placeAt (keyC m) (keyD m) (8 * cs.length) k < 8 * cs.length := Nat.mod_lt _ (by omega)
        have hnext := hasL_snoc cs (keyC m) (keyD m) (8 * cs.length) k
        rw [hqe] at hy0
        generalize placeAt (keyC m) (keyD m) (8 * cs.length) k = q at *
        have hy : wr.cell? ⟨gy, k, none⟩ = some (.int .i64 q) := by rw [hb.cell (block_lt_of_cell hy0)]; exact hy0
        obtain ⟨u, hu, hun⟩ : ∃ u, q / 8 = u ∧ u < cs.length := ⟨_, rfl, by omega⟩
        obtain ⟨r, hr, hr8⟩ : ∃ r, q % 8 = r ∧ r < 8 := ⟨_, rfl, Nat.mod_lt _ (by omega)⟩
        have hz0 : w.cell? ⟨b, off + (1 + u), none⟩ = some (.int .u8 (cs.getD u 0)) := by
          have := HC.out (1 + u) (by have := HN.out; omega)
          rw [this, show 1 + u = u + 1 from by omega, List.getD_cons_succ]
        have htest : testB cs q = (cs.getD u 0).testBit r := by unfold testB; rw [hu, hr]
        have hz8 : cs.getD u 0 < 256 := getD_byte HF2.out.b8 u
        generalize cs.getD u 0 = z at *
        have hz3 : w3.cell? ⟨b, off + (1 + u), none⟩ = some (.int .u8 z) := by rw [Hbw3.out.cell (block_lt_of_cell hz0)]; exact hz0
        have hz : wr.cell? ⟨b, off + (1 + u), none⟩ = some (.int .u8 z) := by rw [hb.cell (block_lt_of_cell hz3)]; exact hz3
        have hqu : (q : Int) / 8 = (u : Int) := by omega
        have hqr : (q : Int) % 8 = (r : Int) := by omega
        have hun' : (1 + u : Int) < n := by have := HN.out; omega
        have Hnext := Lib.hid hnext
        have Htest := Lib.hid htest
        clear hnext htest hu hr hz3 hz0 hy0 hqe hkl hlen h02 h03
        generalize hA : hasL cs (places (keyC m) (keyD m) (8 * cs.length) k) = A at *
        have HA := Lib.hid hA
        clear hA
        cases A with
        | false =>
          have hf : Hid (false = hasL cs (places (keyC m) (keyD m) (8 * cs.length) (k + 1))) := by show _ = _; rw [Hnext.out]; rfl
          go_wp2
          go_roundw
          case rel => exact ⟨k + 1, by omega, by go_num, by rw [← hf.out], hb⟩
          case measure => simp [intOf]; omega
        | true =>
          cases hb1 : z.testBit r with
          | false =>
            have sB := bit_one_off z r hz8 hb1
            have hf : Hid (false = hasL cs (places (keyC m) (keyD m) (8 * cs.length) (k + 1))) := by show _ = _; rw [Hnext.out, Htest.out, hb1]; rfl
            have Hb1 := Lib.hid hb1
            clear hb1
            go_wp2
            go_roundw
            case rel => exact ⟨k + 1, by omega, by go_num, by rw [← hf.out], hb⟩
            case measure => simp [intOf]; omega
          | true =>
            have sB := bit_one_on z r hz8 hb1
            have hf : Hid (true = hasL cs (places (keyC m) (keyD m) (8 * cs.length) (k + 1))) := by show _ = _; rw [Hnext.out, Htest.out, hb1]; rfl
            have Hb1 := Lib.hid hb1
            clear hb1
            go_wp2
            go_roundw
            case rel => exact ⟨k + 1, by omega, by go_num, by rw [← hf.out], hb⟩
            case measure => simp [intOf]; omega
      · obtain rfl : k = x := by omega
        have Hf3 := Lib.hid (HF2.out.below (B := 0) (Hb3.out.trans (hb.mono (by have := Hb3.out.size; omega))))
        have hbwr : Below w.heap.size w wr := Hbw3.out.trans (hb.mono hsw3)
        have Hkr := Lib.hid (H'.out.below hbwr)
        have Htr := Lib.hid (Ht.out.below hbwr)
        have cH : Hid (Calls Tryd.prog 15 #[.pointer (some ⟨fb, 0, none⟩), .slice ka m.length kc] wr fun e w' => e = .returned (.bool (hasL cs (places (keyC m) (keyD m) (8 * cs.length) k))) ∧ Below wr.heap.size wr w') := has_any wr ka m.length kc m Hkr.out Htr.out fb gb cap cs k Hf3.out
        generalize hasL cs (places (keyC m) (keyD m) (8 * cs.length) k) = A at *
        clear h02 h03
        go_wp2_with fail
        refine cH.out.mono ?_
        rintro e w4 ⟨rfl, hb4⟩
        have hbw4 : Below w.heap.size w w4 := hbwr.trans (hb4.mono (by omega))
        have hAA : (A == A) = true := by simp
        go_wp2_with fail
        refine (awake_any w4 (Ht.out.below hbw4)).mono ?_
        rintro e w5 ⟨rfl, hb5⟩
        have hbw5 : Below w.heap.size w w5 := hbw4.trans (hb5.mono hbw4.size)
        go_wp2
        go_ret
        exact ⟨rfl, hbw5⟩
theorem bloomParses_walk (v : Value) (l : List Nat) (v' : Value) (m : List Nat) (w : World) (h : IsBytes w v l) (h' : IsBytes w v' m) (ht : TabOk w) :
    Calls Tryd.prog 7 #[v, v'] w fun e w' => e = .returned (.bool true) ∧ Below w.heap.size w w' := by
  by_cases q : 5000 < l.length ∨ 500 < m.length
  · exact parses_long v v' l m w h h' ht q
  · by_cases q1 : (l.length : Int) ≤ 8
    · exact parses_short v v' l m w h h' ht q1 (by omega)
    · have g := h
      have g' := h'
      obtain ⟨-, a, c, rfl, -, -, g3⟩ := g
      obtain ⟨-, a', c', rfl, -, -, -⟩ := g'
      obtain ⟨b, off, rfl, -⟩ := g3 (by rintro rfl; simp at q1)
      by_cases q2 : (l.getD 0 0 : Int) < 1 ∨ (30 : Int) < (l.getD 0 0 : Int)
      · exact parses_odd b off c _ l m w h h' ht (by omega) (by omega) (by omega) q2
      · exact parses_yes b off c a' c' l m w h h' ht (by omega) (by omega) (by omega) (by omega) (by omega)
end Go.Proofs.YtkdipflmmlnbpaaDoor.Tithe
