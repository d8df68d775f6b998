/- A writer of bytes: Number, Bytes: walked. -/
import Derived.Test.YthjjelomlgmllaaWireRead
import Derived.Laws.CopyOwn
import Derived.Laws.MakeOwn
namespace Go.Proofs.Ythjjelomlgmllaa.Tithe
open Go.RowKit Go.Sort
set_option linter.unusedVariables false
set_option maxRecDepth 100000
/-- the bytes of a number -/
def encF : Nat → Nat → List Nat
  | 0, n => [n]
  | f + 1, n => if 127 < n then (n % 128 + 128) :: encF f (n / 128) else [n]
def encN (n : Nat) : List Nat := encF 9 n
structure IsWr (w : World) (base wb : Nat) (bs : List Nat) : Prop where
  ex : ∃ v, w.heap[wb]? = some (.cells #[v, .bool false] 93 (0, 0)) ∧ w.ownsRow base 5 1 v bs.length (flat byteC bs)
  lt : wb < base
  le : base ≤ w.heap.size
theorem byteC_one (l : List Nat) : ∀ u ∈ flat byteC l, u.oneCell' = true := by
  intro u hu
  simp only [flat, List.mem_flatMap, byteC, List.mem_cons, List.not_mem_nil, or_false] at hu
  obtain ⟨x, -, rfl⟩ := hu
  rfl
theorem u8Info : (Try.prog.info? 5).map (fun i => (i.zero, i.size, i.bytes)) = some (some (.int .u8 0), 1, 1) := by kernel_rfl
theorem info_partsR {α β γ δ : Type} {f : α → Option β} {g : α → γ} {h : α → δ} {o : Option α} {b : Option β} {c : γ} {d : δ} (hh : o.map (fun i => (f i, g i, h i)) = some (b, c, d)) : ∃ i, o = some i ∧ f i = b ∧ g i = c ∧ h i = d := by
  cases o with
  | none => cases hh
  | some i => injection hh with e; injection e with e1 e2; injection e2 with e2 e3; exact ⟨i, rfl, e1, e2, e3⟩
theorem or128 (n : Nat) : bits BinOp.or IntKind.u8 ((n % 256 : Nat) : Int) 128 = ((n % 128 + 128 : Nat) : Int) := by
  rw [show (128 : Int) = ((128 : Nat) : Int) from rfl, u8_or_nat (n % 256) 128 (by omega) (by decide)]
  congr 1
  have h1 : n % 256 = 128 * (n / 128 % 2) + n % 128 := by omega
  have h2 : n % 128 < 2 ^ 7 := by omega
  have h3 : ∀ q, q < 2 → (128 * q + n % 128) ||| 128 = n % 128 + 128 := by
    intro q hq
    have e1 : (2 ^ 7 * q + n % 128) = 2 ^ 7 * q ||| n % 128 := Nat.two_pow_add_eq_or_of_lt h2 q
    have e2 : (2 ^ 7 * 1 + n % 128) = 2 ^ 7 * 1 ||| n % 128 := Nat.two_pow_add_eq_or_of_lt h2 1
    have e3 : (2 ^ 7 * q ||| 2 ^ 7 * 1) = 2 ^ 7 * 1 := by
      rcases (by omega : q = 0 ∨ q = 1) with rfl | rfl <;> rfl
    calc (128 * q + n % 128) ||| 128 = (2 ^ 7 * q ||| n % 128) ||| 2 ^ 7 * 1 := by rw [← e1]
      _ = (2 ^ 7 * q ||| 2 ^ 7 * 1) ||| n % 128 := by rw [Nat.or_assoc, Nat.or_comm (n % 128), ← Nat.or_assoc]
      _ = 2 ^ 7 * 1 ||| n % 128 := by rw [e3]
      _ = n % 128 + 128 := by rw [← e2]; omega
  rw [h1]
  exact h3 _ (by omega)
set_option maxHeartbeats 1600000 in
theorem wnumber_any (w : World) (base wb : Nat) (bs : List Nat) (n : Nat) (h : IsWr w base wb bs) (hn : n < 9223372036854775808) (hl : bs.length ≤ 100000) :
    Calls Try.prog 30 #[.pointer (some ⟨wb, 0, none⟩), .int .i64 n] w fun e w' => e = .returned (.pointer (some ⟨wb, 0, none⟩)) ∧ IsWr w' base wb (bs ++ encN n) ∧ Below wb w w' := by
  obtain ⟨i0, hi0, hz0, hz1, hz2⟩ := info_partsR u8Info
  have H := Lib.hid h
  have hlt := h.lt
  have hle := h.le
  have Hi0 := Lib.hid hi0
  have Hz0 := Lib.hid hz0
  have Hz1 := Lib.hid hz1
  have Hz2 := Lib.hid hz2
  clear h hi0 hz0 hz1 hz2
  have hn0 : ¬ ((n : Int) < 0) := by omega
  have h9 : Hid (n < 2 ^ (7 * 9)) := Lib.hid (show n < 2 ^ (7 * 9) from hn)
  go_enter Try.func30, Try.ntmps30
  go_wp2
  go_loopw [1] (fun nv wr => ∃ (f m : Nat) (dn : List Nat), f ≤ 9 ∧ nv = .int .i64 m ∧ m < 2 ^ (7 * f) ∧ encN n = dn ++ encF f m ∧ dn.length + f = 9 ∧ IsWr wr base wb (bs ++ dn) ∧ Below wb w wr) (fun nv _ => (intOf nv).toNat)
  case atStart => exact ⟨9, n, [], by omega, rfl, h9.out, rfl, rfl, by rw [List.append_nil]; exact H.out, Below.refl _ _⟩
  case round =>
    obtain ⟨wo, rfl⟩ : ∃ wo : World, wo = wr := ⟨_, rfl⟩
    obtain ⟨f, m, dn, hf, rfl, hm, henc, hdn, hwr, hb⟩ := hrel
    have Henc := Lib.hid henc
    have Hm := Lib.hid hm
    have Hb := Lib.hid hb
    have Hwr := Lib.hid hwr
    obtain ⟨v, hblk, hown⟩ := hwr.ex
    have hwo := hwr.le
    have Hblk := Lib.hid hblk
    have c0 : wo.cell? ⟨wb, 0, none⟩ = some v := by rw [cell_blkR hblk]; rfl
    have f0 : wo.frozen? ⟨wb, 0, none⟩ = false := frozen_blkR hblk 0
    clear henc hm hb hwr hblk
    have hi0 := Hi0.out
    have hz0 := Hz0.out
    have hz1 := Hz1.out
    have hz2 := Hz2.out
    by_cases h127 : 127 < m
    · obtain ⟨y, hy⟩ : ∃ y : Nat, y = m % 128 + 128 := ⟨_, rfl⟩
      have hor : bits BinOp.or IntKind.u8 ((m : Int) % 256) 128 = (y : Int) := by
        rw [hy, ← or128 m]; congr 1
      have hy2 : y < 256 := by omega
      have hq : (m : Int) / 2 ^ 7 = ((m / 128 : Nat) : Int) := by omega
      obtain ⟨q, hqm⟩ : ∃ q, q = m / 128 := ⟨_, rfl⟩
      rw [← hqm] at hq
      have Hy := Lib.hid hy
      have Hqm := Lib.hid hqm
      clear hy hqm
      obtain ⟨nl, hnl⟩ : ∃ nl, nl = (bs ++ dn).length := ⟨_, rfl⟩
      obtain ⟨fl, hfl⟩ : ∃ fl, flat byteC (bs ++ dn) = fl := ⟨_, rfl⟩
      rw [← hnl, hfl] at hown
      have hn1 : nl ≤ 100009 := by rw [hnl, List.length_append]; omega
      have Hnl := Lib.hid hnl
      have Hfl := Lib.hid hfl
      obtain ⟨va, vc, rfl⟩ := own_slice hown
      clear hnl hfl
      go_wp2_with (first | (at_builtin; refine wpList_append_own _ rfl (.tmp 17) (.tmp 21) 34 rfl base 5 i0 (.int .u8 0) 1 1 Try.underlying34 hi0 hz0 hz1 hz2 rfl (by decide) _ nl _ rfl (hown.alloc _) ⟨wo.heap.size, 0, none⟩ 1 1 [.int .u8 (y : Int)] rfl rfl ?c1 ?c2 ?c3 ?c4 ?c5 ?_))
      case c1 => exact newsL _ _ rfl _ _ rfl
      case c2 => first | rfl | (intro u hu; simp at hu; subst hu; rfl)
      case c3 => unfold maxLen; omega
      case c4 => omega
      case c5 => first | omega | (simp; omega)
      intro v' w1 hown' hgrow _
      have hlt1 := (hown.alloc (.cells #[.int .u8 (y : Int)] 5)).lt
      have hb1 : Below wb w w1 := (Hb.out.alloc (Nat.le_of_lt (Nat.lt_of_lt_of_le hlt (Nat.le_trans hle Hb.out.size))) _).grown hgrow (by have := Hb.out.size; simp; omega) (fun r hr => by have := hlt1 r hr; omega)
      have hblk1 : w1.heap[wb]? = some (.cells #[.slice va nl vc, .bool false] 93 (0, 0)) := (hgrow.block wb (by simp; omega) (fun e => by have := hlt1 _ e.symm; omega)).trans ((Below.heap_alloc _ _ _ (by omega)).trans Hblk.out)
      have hw1 := hgrow.size
      have hw1' : base ≤ w1.heap.size := by simp at hw1; omega
      have hown2 : w1.ownsRow base 5 1 v' (bs ++ (dn ++ [y])).length (flat byteC (bs ++ (dn ++ [y]))) := by
        rw [← List.append_assoc, List.length_append, flat_append, flat_one, ← Hnl.out, Hfl.out]; exact hown'
      have c1 : w1.cell? ⟨wb, 0, none⟩ = some (.slice va nl vc) := by rw [cell_blkR hblk1]; rfl
      have f1 : w1.frozen? ⟨wb, 0, none⟩ = false := frozen_blkR hblk1 0
      obtain ⟨nl2, hnl2⟩ : ∃ nl2, nl2 = (bs ++ (dn ++ [y])).length := ⟨_, rfl⟩
      rw [← hnl2] at hown2
      obtain ⟨va2, vc2, rfl⟩ := own_slice hown2
      have Hnl2 := Lib.hid hnl2
      have Hown2 := Lib.hid hown2
      clear hnl2
      have Hb1 := Lib.hid hb1
      have Hblk1 := Lib.hid hblk1
      clear hown' hgrow hown hlt1 hb1 hblk1 hown2 c0 f0 hi0 hz0 hz1 hz2 hw1
      go_wp2
      have hset := fun vv => grown_setCellR w1 wb 0 vv
      have hbs := fun vv => Hb1.out.trans (grown_belowR (hset vv) (Nat.le_refl _) (by omega))
      have hiw : ∀ v2, w1.ownsRow base 5 1 v2 nl2 (flat byteC (bs ++ (dn ++ [y]))) → IsWr (w1.setCell ⟨wb, 0, none⟩ v2) base wb (bs ++ (dn ++ [y])) := fun v2 ho => ⟨⟨v2, by rw [blk_setCellR Hblk1.out]; rfl, by rw [← Hnl2.out]; exact own_far ho (hset v2) (fun r e => by cases e; exact hlt)⟩, hlt, by simpa [World.setCell] using hw1'⟩
      obtain ⟨f2, rfl⟩ : ∃ f2, f = f2 + 1 := by
        rcases Nat.eq_zero_or_pos f with z | z
        · exfalso
          have := Hm.out
          rw [z] at this
          simp at this
          omega
        · exact ⟨f - 1, by omega⟩
      have henc2 : encN n = (dn ++ [y]) ++ encF f2 (m / 128) := by
        rw [Henc.out, List.append_assoc]
        congr 1
        show (if 127 < m then (m % 128 + 128) :: encF f2 (m / 128) else [m]) = _
        rw [if_pos h127, ← Hy.out]; rfl
      have hm2 : m / 128 < 2 ^ (7 * f2) := by
        have h1 := Hm.out
        have e : 2 ^ (7 * (f2 + 1)) = 2 ^ (7 * f2) * 128 := by rw [Nat.mul_add, Nat.mul_one, Nat.pow_add]
        rw [e] at h1
        exact Nat.div_lt_of_lt_mul (by rw [Nat.mul_comm]; exact h1)
      go_roundw
      case rel => exact ⟨f2, m / 128, dn ++ [y], by omega, by first | rfl | (congr 1; omega) | simp, hm2, henc2, by rw [List.length_append]; simp; omega, hiw _ Hown2.out, hbs _⟩
      case measure => simp [intOf]; omega
    · have hm127 : ¬ (127 : Int) < (m : Int) := by omega
      obtain ⟨nl, hnl⟩ : ∃ nl, nl = (bs ++ dn).length := ⟨_, rfl⟩
      obtain ⟨fl, hfl⟩ : ∃ fl, flat byteC (bs ++ dn) = fl := ⟨_, rfl⟩
      rw [← hnl, hfl] at hown
      have hn1 : nl ≤ 100009 := by rw [hnl, List.length_append]; omega
      have Hnl := Lib.hid hnl
      have Hfl := Lib.hid hfl
      obtain ⟨va, vc, rfl⟩ := own_slice hown
      clear hnl hfl
      go_wp2_with (first | (at_builtin; refine wpList_append_own _ rfl (.tmp 31) (.tmp 34) 34 rfl base 5 i0 (.int .u8 0) 1 1 Try.underlying34 hi0 hz0 hz1 hz2 rfl (by decide) _ nl _ rfl (hown.alloc _) ⟨wo.heap.size, 0, none⟩ 1 1 [.int .u8 (m : Int)] rfl rfl ?c1 ?c2 ?c3 ?c4 ?c5 ?_))
      skip
      case c2 => first | rfl | (intro u hu; simp at hu; subst hu; rfl)
      case c3 => unfold maxLen; omega
      case c4 => omega
      case c5 => first | omega | (simp; omega)
      intro v' w1 hown' hgrow _
      have hlt1 := (hown.alloc (.cells #[.int .u8 (m : Int)] 5)).lt
      have hb1 : Below wb w w1 := (Hb.out.alloc (Nat.le_of_lt (Nat.lt_of_lt_of_le hlt (Nat.le_trans hle Hb.out.size))) _).grown hgrow (by have := Hb.out.size; simp; omega) (fun r hr => by have := hlt1 r hr; omega)
      have hblk1 : w1.heap[wb]? = some (.cells #[.slice va nl vc, .bool false] 93 (0, 0)) := (hgrow.block wb (by simp; omega) (fun e => by have := hlt1 _ e.symm; omega)).trans ((Below.heap_alloc _ _ _ (by omega)).trans Hblk.out)
      have hw1 := hgrow.size
      have hw1' : base ≤ w1.heap.size := by simp at hw1; omega
      have hown2 : w1.ownsRow base 5 1 v' (bs ++ (dn ++ [m])).length (flat byteC (bs ++ (dn ++ [m]))) := by
        rw [← List.append_assoc, List.length_append, flat_append, flat_one, ← Hnl.out, Hfl.out]; exact hown'
      have c1 : w1.cell? ⟨wb, 0, none⟩ = some (.slice va nl vc) := by rw [cell_blkR hblk1]; rfl
      have f1 : w1.frozen? ⟨wb, 0, none⟩ = false := frozen_blkR hblk1 0
      obtain ⟨nl2, hnl2⟩ : ∃ nl2, nl2 = (bs ++ (dn ++ [m])).length := ⟨_, rfl⟩
      rw [← hnl2] at hown2
      obtain ⟨va2, vc2, rfl⟩ := own_slice hown2
      have Hnl2 := Lib.hid hnl2
      have Hown2 := Lib.hid hown2
      clear hnl2
      have Hb1 := Lib.hid hb1
      have Hblk1 := Lib.hid hblk1
      clear hown' hgrow hown hlt1 hb1 hblk1 hown2 c0 f0 hi0 hz0 hz1 hz2 hw1
      go_wp2
      have hset := fun vv => grown_setCellR w1 wb 0 vv
      have hbs := fun vv => Hb1.out.trans (grown_belowR (hset vv) (Nat.le_refl _) (by omega))
      have hiw : ∀ v2, w1.ownsRow base 5 1 v2 nl2 (flat byteC (bs ++ (dn ++ [m]))) → IsWr (w1.setCell ⟨wb, 0, none⟩ v2) base wb (bs ++ (dn ++ [m])) := fun v2 ho => ⟨⟨v2, by rw [blk_setCellR Hblk1.out]; rfl, by rw [← Hnl2.out]; exact own_far ho (hset v2) (fun r e => by cases e; exact hlt)⟩, hlt, by simpa [World.setCell] using hw1'⟩
      have henc2 : encN n = dn ++ [m] := by
        rw [Henc.out]
        congr 1
        cases f with
        | zero => rfl
        | succ f2 =>
          show (if 127 < m then (m % 128 + 128) :: encF f2 (m / 128) else [m]) = _
          rw [if_neg h127]
      go_ret
      refine ⟨rfl, ?_, hbs _⟩
      rw [henc2]
      exact hiw _ Hown2.out
theorem run_make_bytes (w : World) (k : Nat) (hk : k ≤ 16777216) : (Instr.makeSlice 34 (.int .i64 (k : Int)) (.int .i64 (k : Int))).run Try.prog w = .ok (.slice (some ⟨w.heap.size, 0, none⟩) k k) (w.alloc (.cells (List.replicate k (.int .u8 0)).toArray 5)) := by
  obtain ⟨i0, hi0, hz0, hz1, hz2⟩ := info_partsR u8Info
  have := run_make (P := Try.prog) w _ _ i0 _ Try.underlying34 hi0 hz0 .i64 .i64 (k : Int) (k : Int) (by omega) (by omega) (by rw [hz2]; omega) (by omega)
  rw [this]
  simp only [Int.toNat_natCast, hz1]
  congr 3
  apply Array.ext'
  unfold madeCells
  simp
  apply List.ext_getElem
  · simp
  · intro i h1 h2
    simp [Value.cells, Nat.mod_one]
set_option maxHeartbeats 800000 in
theorem wbytes_any (w : World) (base wb : Nat) (bs : List Nat) (h : IsWr w base wb bs) (hl : bs.length ≤ 100000) (hne : 0 < bs.length) :
    Calls Try.prog 33 #[.pointer (some ⟨wb, 0, none⟩)] w fun e w' => ∃ v', e = .returned (.tuple #[v', .int .i64 0]) ∧ w'.ownsRow w.heap.size 5 1 v' bs.length (flat byteC bs) ∧ Below w.heap.size w w' := by
  obtain ⟨v, hblk, hown⟩ := h.ex
  have c0 : w.cell? ⟨wb, 0, none⟩ = some v := by rw [cell_blkR hblk]; rfl
  have c1 : w.cell? ⟨wb, 1, none⟩ = some (.bool false) := by rw [cell_blkR hblk]; rfl
  obtain ⟨n, hn⟩ : ∃ n, n = bs.length := ⟨_, rfl⟩
  rw [← hn] at hown hl hne ⊢
  obtain ⟨g, cap, rfl, hgb, hgl⟩ := hown.form hne
  have Hn := Lib.hid hn
  have Hown := Lib.hid hown
  clear hn hown hblk h
  have hmk := run_make_bytes w n (by omega)
  obtain ⟨Z, hZ⟩ : ∃ Z : List Value, Z = List.replicate n (.int .u8 0) := ⟨_, rfl⟩
  rw [← hZ] at hmk
  have hZl : Z.length = n := by rw [hZ]; simp
  have HZl := Lib.hid hZl
  have hsrc : ∀ j v, (flat byteC bs)[j]? = some v → (w.alloc (.cells Z.toArray 5)).cell? ((⟨g, 0, none⟩ : Addr).add j) = some v := fun j v hj => by
    have := Hown.out.cells rfl j v hj
    rw [World.cell?_alloc_lt _ _ _ (block_lt_of_cell this)]; exact this
  have Hsrc := Lib.hid hsrc
  have c2 : (w.alloc (.cells Z.toArray 5)).cell? ⟨wb, 0, none⟩ = some (.slice (some ⟨g, 0, none⟩) n cap) := by rw [World.cell?_alloc_lt _ _ _ (block_lt_of_cell c0)]; exact c0
  have hfl : (flat byteC bs).length = n := by rw [flat_length byteC_len, Hn.out, Nat.mul_one]
  obtain ⟨FB, hFB⟩ : ∃ FB, FB = flat byteC bs := ⟨_, rfl⟩
  rw [← hFB] at hfl hsrc Hsrc ⊢
  have HFB := Lib.hid hFB
  have hone : ∀ u ∈ FB, u.oneCell' = true := by rw [hFB]; exact byteC_one bs
  have Hone := Lib.hid hone
  have Hfl := Lib.hid hfl
  clear hZ hZl hsrc hfl hFB hone
  go_enter Try.func33, Try.ntmps33
  have hbz : Below w.heap.size w (w.alloc (.cells Z.toArray 5)) := (Below.refl _ _).alloc (Nat.le_refl _) _
  have Hbz := Lib.hid hbz
  have Hzb : Hid ((w.alloc (.cells Z.toArray 5)).heap[w.heap.size]? = some (.cells Z.toArray 5 (0, 0))) := by
    show (w.heap.push _)[w.heap.size]? = _
    simp
  clear hbz
  go_wp2_with (first | (with_reducible refine wpList_copy_splice rfl (.tmp 15) (.tmp 19) 34 34 rfl 5 Try.underlying34 (by kernel_rfl) (some ⟨w.heap.size, 0, none⟩) (some ⟨g, 0, none⟩) n n n cap rfl rfl w.heap.size 0 Z 5 Hzb.out FB ?q1 ?q2 ?q3 Hone.out w.heap.size w Hbz.out (Nat.le_refl _) ?_))
  case q1 => rw [Hfl.out]; simp
  case q2 =>
    first
      | exact fun _ => ⟨rfl, _, rfl, Hsrc.out⟩
      | (intro j v hj
         have hj2 : (flat byteC bs)[j]? = some v := by rw [← HFB.out]; exact hj
         have := Hown.out.cells rfl j v hj2
         rwa [plain_add', Nat.zero_add] at this)
      | (intro _ j v hj
         have hj2 : (flat byteC bs)[j]? = some v := by rw [← HFB.out]; exact hj
         have := Hown.out.cells rfl j v hj2
         rwa [plain_add', Nat.zero_add] at this)
  case q3 => rw [Hfl.out, HZl.out]; omega
  intro w2 h2 hb2
  have hsp : splice Z 0 FB = FB := by
    unfold splice
    rw [List.take_zero, List.nil_append, Nat.zero_add, List.drop_of_length_le (by rw [Hfl.out, HZl.out]; exact Nat.le_refl _), List.append_nil]
  have hown2 : w2.ownsRow w.heap.size 5 1 (.slice (some ⟨w.heap.size, 0, none⟩) n n) n FB :=
    ⟨by rw [Hfl.out, Nat.mul_one], .inr ⟨w.heap.size, n, FB.toArray, rfl, Nat.le_refl _, by rw [h2.out, hsp], Nat.le_refl _, by unfold maxLen; omega, by simp [Hfl.out], by rw [Nat.mul_one]; exact List.take_of_length_le (by rw [Hfl.out]; exact Nat.le_refl _)⟩⟩
  have Hown2 := Lib.hid hown2
  have Hb2 := Lib.hid hb2
  clear h2 hb2 hsp hown2
  go_wp2
  go_ret2
  exact ⟨_, rfl, Hown2.out, Hb2.out⟩
end Go.Proofs.Ythjjelomlgmllaa.Tithe
