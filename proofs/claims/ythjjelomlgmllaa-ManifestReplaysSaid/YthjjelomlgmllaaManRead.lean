/- A reader of any bytes: Number, Raw, Text, NewReader: walked (printed by mkmanread.py). -/
import Derived.Test.YthjjelomlgmllaaWireWrite
import Derived.Deep.RegionHeld3
import Derived.Laws.IdiomStrings
namespace Go.Proofs.Ythjjelomlgmllaa.Tithe
open Go.RowKit Go.Sort
set_option linter.unusedVariables false
set_option maxRecDepth 100000
theorem cell_bel {B : Nat} {w w' : World} (hb : Below B w w') {b i : Nat} {v : Value} (hlt : b < B) (h : w.cell? ⟨b, i, none⟩ = some v) : w'.cell? ⟨b, i, none⟩ = some v := (hb.cell (p := ⟨b, i, none⟩) hlt).trans h
theorem encF_len : ∀ (f n : Nat), 1 ≤ (encF f n).length ∧ (encF f n).length ≤ f + 1
  | 0, n => ⟨Nat.le_refl _, Nat.le_refl _⟩
  | f + 1, n => by
    have := encF_len f (n / 128)
    unfold encF
    split
    · rw [List.length_cons]; omega
    · simp
theorem IsWr.drew {w : World} {base wb : Nat} {bs : List Nat} (h : IsWr w base wb bs) : IsWr w.drew base wb bs := ⟨h.ex, h.lt, h.le⟩
def strOf (l : List Nat) : ByteArray := ⟨(l.map UInt8.ofNat).toArray⟩
theorem encF_b : ∀ (f n : Nat), n < 2 ^ (7 * f) → ∀ x ∈ encF f n, x < 256
  | 0, n, h, x, hx => by
    simp only [encF, List.mem_cons, List.not_mem_nil, or_false] at hx
    simp at h
    omega
  | f + 1, n, h, x, hx => by
    unfold encF at hx
    split at hx
    · rcases List.mem_cons.1 hx with rfl | hx
      · omega
      · refine encF_b f (n / 128) ?_ x hx
        have e : 2 ^ (7 * (f + 1)) = 2 ^ (7 * f) * 128 := by rw [Nat.mul_add, Nat.mul_one, Nat.pow_add]
        rw [e] at h
        exact Nat.div_lt_of_lt_mul (by rw [Nat.mul_comm]; exact h)
    · simp only [List.mem_cons, List.not_mem_nil, or_false] at hx
      omega
theorem encN_byte {n : Nat} (h : n < 9223372036854775808) : ∀ x ∈ encN n, x < 256 := encF_b 9 n h
theorem conv_back (w : World) (base g c : Nat) (bs : List Nat) (h : w.ownsRow base 5 1 (.slice (some ⟨g, 0, none⟩) bs.length c) bs.length (flat byteC bs)) (hb : ∀ x ∈ bs, x < 256) :
    (convert 34 9 (.slice (some ⟨g, 0, none⟩) bs.length c)).run Try.prog w = .ok (.string (strOf bs)) w := by
  have := run_convert_bytes_back (P := Try.prog) w 34 9 5 ⟨g, 0, none⟩ c (bs.map UInt8.ofNat) Try.underlying34 Try.underlying5 Try.underlying9 (fun j hj => by
    rw [List.length_map] at hj
    have hx := List.getElem?_eq_getElem hj
    have h1 := flat_get byteC_len bs j _ hx 0 _ rfl
    rw [Nat.mul_one, Nat.add_zero] at h1
    rw [h.cells rfl _ _ h1, List.getElem_map]
    congr 2
    have := hb _ (List.getElem_mem hj)
    simp [UInt8.toNat_ofNat']
    omega)
  rw [List.length_map] at this
  exact this
def bytesOf (s : ByteArray) : List Nat := s.data.toList.map UInt8.toNat
theorem bytesOf_len (s : ByteArray) : (bytesOf s).length = s.size := by unfold bytesOf; rw [List.length_map]; obtain ⟨⟨l⟩⟩ := s; rfl
theorem bytesOf_lt (s : ByteArray) : ∀ x ∈ bytesOf s, x < 256 := by
  intro x hx
  unfold bytesOf at hx
  obtain ⟨b, -, rfl⟩ := List.mem_map.1 hx
  exact b.toNat_lt
theorem bytesOf_strOf {l : List Nat} (h : ∀ x ∈ l, x < 256) : bytesOf (strOf l) = l := by
  unfold bytesOf strOf
  show ((l.map UInt8.ofNat)).map UInt8.toNat = l
  rw [List.map_map]
  conv => rhs; rw [← List.map_id l]
  apply List.map_congr_left
  intro x hx
  have := h x hx
  simp [UInt8.toNat_ofNat']
  omega
/-! ### Parse -/
set_option maxHeartbeats 800000 in
theorem number_bad (w0 w : World) (rb : Nat) (bs : List Nat) (h : IsRd w0 w rb bs true) :
    Calls Try.prog 42 #[.pointer (some ⟨rb, 0, none⟩)] w fun e w' => e = .returned (.int .i64 0) ∧ IsRd w0 w' rb bs true ∧ w.grownBy w' (some rb) := by
  have hb := byte_none w0 w rb bs true h (.inl rfl)
  have Hb := Lib.hid hb
  clear hb h
  go_enter Try.func42, Try.ntmps42
  go_wp2
  go_loopw [3, 6] (fun nv iv wr => nv = .int .i64 0 ∧ iv = .int .i64 0 ∧ wr = w) (fun _ _ _ => 0)
  case atStart => exact ⟨rfl, rfl, rfl⟩
  case round =>
    obtain ⟨rfl, rfl, rfl⟩ := hrel
    go_wp2_with fail
    refine Hb.out.mono ?_
    rintro e w2 ⟨rfl, h2, hg2⟩
    have c1 : w2.cell? ⟨rb, 1, none⟩ = some (.bool true) := by
      obtain ⟨⟨v, hblk, -⟩, -, -⟩ := h2
      rw [cell_blkR hblk]; rfl
    have H2 := Lib.hid h2
    have Hg2 := Lib.hid hg2
    clear h2 hg2
    go_wp2
    go_ret
    exact ⟨rfl, H2.out, Hg2.out⟩
/-- a number of a reader, wrong or not -/
def numB (bad : Bool) (bs : List Nat) : Nat × List Nat × Bool := if bad then (0, bs, true) else numR bs
theorem num_any (w0 w : World) (rb : Nat) (bs : List Nat) (bad : Bool) (h : IsRd w0 w rb bs bad) (hb : ∀ x ∈ bs, x < 256) :
    Calls Try.prog 42 #[.pointer (some ⟨rb, 0, none⟩)] w fun e w' => e = .returned (.int .i64 (numB bad bs).1) ∧ IsRd w0 w' rb (numB bad bs).2.1 (numB bad bs).2.2 ∧ w.grownBy w' (some rb) := by
  cases bad with
  | true => exact number_bad w0 w rb bs h
  | false => exact number_any w0 w rb bs h hb
theorem conv_bytes (w : World) (s : ByteArray) (hs : s.size ≤ maxLen) :
    ∃ c W1, (convert 9 34 (.string s)).run Try.prog w = .ok (.slice (some ⟨w.heap.size, 0, none⟩) s.size c) W1 ∧ Below w.heap.size w W1 ∧ IsBs W1 (.slice (some ⟨w.heap.size, 0, none⟩) s.size c) (bytesOf s) := by
  refine ⟨_, _, run_bytes_of_string (P := Try.prog) w 9 34 5 s Try.underlying9 Try.underlying34 Try.underlying5, ((Below.refl w.heap.size w).drew).alloc (Nat.le_refl _) _, ?_⟩
  refine ⟨_, _, by rw [bytesOf_len], by rw [bytesOf_len]; exact grownCap_ge _ _ _ _, grownCap_le_maxLen _ _ _ _ hs, fun _ => ⟨_, _, rfl, fun i x hi j y hj => ?_⟩⟩
  have hj0 : j = 0 := by have := (List.getElem?_eq_some_iff.1 hj).1; simp [byteC] at this; omega
  subst hj0
  have hy : y = .int .u8 x := by simpa [byteC] using hj.symm
  subst hy
  have hlt := (List.getElem?_eq_some_iff.1 hi).1
  rw [bytesOf_len] at hlt
  have hx : x = s.data[i].toNat := by
    have := (List.getElem?_eq_some_iff.1 hi).2
    rw [← this]
    simp [bytesOf]
  have hb := bytesRow_at s (grownCap w s.size 0 5) i hlt
  rw [Nat.mul_one, Nat.add_zero, Nat.zero_add]
  show World.cell? (World.alloc _ _) _ = _
  have hm := World.cell?_alloc_mark w.drew (bytesRow s (grownCap w s.size 0 5)) 5 ((bytesRow s (grownCap w s.size 0 5)).size, (bytesRow s (grownCap w s.size 0 5)).size + 1) i
  rw [show (w.drew).heap.size = w.heap.size from rfl] at hm
  exact hm.trans (by rw [hb, hx])
set_option maxHeartbeats 800000 in
theorem bclone_any (a : Addr) (n c : Nat) (l : List Nat) (w : World) (h : IsBs w (.slice (some a) n c) l) (hlen : n ≤ 1000000) : Calls Try.prog 72 #[.slice (some a) n c] w fun e w' => ∃ v', e = .returned v' ∧ w'.ownsRow w.heap.size 5 1 v' n (flat byteC l) ∧ Below w.heap.size w w' := by
  obtain ⟨i0, hi0, hz0, hz1, hz2⟩ := info_partsR u8Info
  have hs : ∀ w : World, (binOp .eql 34 (.slice (some a) n c) (.slice none 0 0)).run Try.prog w = .ok (.bool false) w := fun _ => rfl
  obtain ⟨hn, hc, hm, hx⟩ := h.at
  have hnews : ∀ (o : Obj) (j : Nat) (z : Value), (flat byteC l)[j]? = some z → (w.alloc o).cell? (a.add j) = some z := by
    intro o j z hj
    have hpos : 0 < n := by
      rcases Nat.eq_zero_or_pos n with q | q
      · exfalso
        obtain rfl : l = [] := List.eq_nil_of_length_eq_zero (by omega)
        simp [flat] at hj
      · exact q
    obtain ⟨b, off, e, -⟩ := hx hpos
    injection e with e
    subst e
    have := h.news byteC_len j z hj
    rw [World.cell?_alloc_lt w _ _ (block_lt_of_cell this)]; exact this
  have Hnews := Lib.hid hnews
  have hfl : (flat byteC l).length = n * 1 := by rw [flat_length byteC_len, hn]
  have Hfl := Lib.hid hfl
  have hone := byteC_one l
  have Hone := Lib.hid hone
  have hoe : (w.alloc (.cells #[] 5)).ownsRow w.heap.size 5 1 (.slice (some ⟨w.heap.size, 0, none⟩) 0 0) 0 [] := by
    refine ⟨by simp, .inr ⟨w.heap.size, 0, #[], rfl, Nat.le_refl _, ?_, Nat.le_refl _, by decide, by simp, by simp⟩⟩
    show (w.heap.push _)[w.heap.size]? = _
    simp
  have Hoe := Lib.hid hoe
  generalize flat byteC l = F at *
  clear h hx hnews hn hfl hone hoe
  go_enter Try.func72, Try.ntmps72
  go_wp2_with (first | (at_builtin; refine wpList_append_own _ rfl (.tmp 5) (.tmp 6) 34 rfl w.heap.size 5 i0 (.int .u8 0) 1 1 Try.underlying34 hi0 hz0 hz1 hz2 rfl (by decide) (.slice (some ⟨w.heap.size, 0, none⟩) 0 0) 0 [] rfl Hoe.out a n c F rfl ?c1 ?c2 ?c3 ?c4 ?c5 ?c6 ?_))
  case c1 => exact Hfl.out
  case c2 => exact Hnews.out _
  case c3 => exact Hone.out
  case c4 => unfold maxLen; omega
  case c5 => omega
  case c6 => first | omega | (simp; omega) | simp
  intro v' w1 hown' hgrow _
  have hg : Below w.heap.size w w1 := grow_own ((Below.refl _ _).alloc (Nat.le_refl _) _) Hoe.out hgrow (Nat.le_refl _) (by simp)
  have Hown := Lib.hid hown'
  clear hown' hgrow
  go_wp2
  go_ret
  exact ⟨_, rfl, Hown.out, hg⟩
set_option maxHeartbeats 800000 in
theorem newreader_any (a : Addr) (n c : Nat) (l : List Nat) (w : World) (h : IsBs w (.slice (some a) n c) l) (hlen : n ≤ 1000000) : Calls Try.prog 41 #[.slice (some a) n c] w fun e w' => ∃ w0 rb, e = .returned (.pointer (some ⟨rb, 0, none⟩)) ∧ IsRd w0 w' rb l false ∧ w.heap.size ≤ rb ∧ Below w.heap.size w w' := by
  have hn := h.at.1
  have hc := bclone_any a n c l w h hlen
  have Hc := Lib.hid hc
  have Hn := Lib.hid hn
  clear hc h hn
  go_enter Try.func41, Try.ntmps41
  go_wp2_with fail
  refine Hc.out.mono ?_
  rintro e w2 ⟨v', rfl, ho, hb⟩
  have hbs : IsBs w2 v' l := isSl_own byteC_len (by rw [← Hn.out]; exact ho)
  obtain ⟨va, vc, rfl⟩ := own_slice ho
  have Hbs := Lib.hid hbs
  have Hb := Lib.hid hb
  clear ho hb hbs
  go_wp2
  go_ret
  refine ⟨w2, _, rfl, ⟨⟨_, by show (w2.heap.push _)[w2.heap.size]? = _; simp, Hbs.out⟩, (Below.refl _ _).alloc (Nat.le_refl _) _, Nat.le_refl _⟩, Hb.out.size, Hb.out.alloc Hb.out.size _⟩
theorem rdN_sub : ∀ (f i acc : Nat) (bs : List Nat), ∀ x ∈ (rdN f i acc bs).2.1, x ∈ bs
  | 0, _, _, bs, x, h => h
  | _ + 1, _, _, [], x, h => h
  | f + 1, i, acc, y :: bs, x, h => by
    unfold rdN at h
    split at h
    · split at h <;> exact List.mem_cons_of_mem _ h
    · exact List.mem_cons_of_mem _ (rdN_sub f (i + 1) _ bs x h)
theorem numB_sub (bad : Bool) (bs : List Nat) : ∀ x ∈ (numB bad bs).2.1, x ∈ bs := by
  intro x h
  unfold numB at h
  split at h
  · exact h
  · exact rdN_sub 9 0 0 bs x h
theorem IsRd.below2 {w0 w w' : World} {rb : Nat} {bs : List Nat} {bad : Bool} (h : IsRd w0 w rb bs bad) (hb : Below w.heap.size w w') : IsRd w0 w' rb bs bad := by
  obtain ⟨⟨v, hblk, hbs⟩, hbel, hold⟩ := h
  exact ⟨⟨v, (hb.block rb (Array.getElem?_eq_some_iff.1 hblk).1).trans hblk, hbs⟩, hbel.trans (hb.mono hbel.size), hold⟩
theorem IsRd.other {w0 w w' : World} {rb pb : Nat} {bs : List Nat} {bad : Bool} (h : IsRd w0 w rb bs bad) (hg : w.grownBy w' (some pb)) (hne : rb ≠ pb) (hp : w0.heap.size ≤ pb) : IsRd w0 w' rb bs bad := by
  obtain ⟨⟨v, hblk, hbs⟩, hbel, hold⟩ := h
  exact ⟨⟨v, (hg.block rb (Array.getElem?_eq_some_iff.1 hblk).1 (fun e => hne (Option.some.inj e))).trans hblk, hbs⟩, hbel.trans (grown_belowR hg hp hbel.size), hold⟩
theorem rdN_enc : ∀ (F G i acc n : Nat) (rest : List Nat), n < 2 ^ (7 * F) → F ≤ G → 1 ≤ F → (n = 0 → i = 0) → rdN F i acc (encF G n ++ rest) = (acc + n * 2 ^ (7 * i), rest, false)
  | 0, _, _, _, _, _, _, _, h, _ => by omega
  | F + 1, 0, _, _, _, _, _, h, _, _ => by omega
  | F + 1, G + 1, i, acc, n, rest, hn, hG, _, hz => by
    unfold encF
    by_cases h : 127 < n
    · rw [if_pos h]
      have hF : 1 ≤ F := by
        rcases Nat.eq_zero_or_pos F with q | q
        · subst q; simp at hn; omega
        · exact q
      show rdN (F + 1) i acc ((n % 128 + 128) :: (encF G (n / 128) ++ rest)) = _
      unfold rdN
      rw [if_neg (by omega)]
      have e : 2 ^ (7 * (F + 1)) = 2 ^ (7 * F) * 128 := by rw [Nat.mul_add, Nat.mul_one, Nat.pow_add]
      rw [e] at hn
      rw [rdN_enc F G (i + 1) _ (n / 128) rest (Nat.div_lt_of_lt_mul (by rw [Nat.mul_comm]; exact hn)) (by omega) hF (by intro q; omega)]
      have e2 : 2 ^ (7 * (i + 1)) = 128 * 2 ^ (7 * i) := by rw [Nat.mul_add, Nat.mul_one, Nat.pow_add, Nat.mul_comm]
      rw [e2, show (n % 128 + 128) % 128 = n % 128 by omega]
      congr 1
      generalize 2 ^ (7 * i) = p
      have e3 : n / 128 * (128 * p) = (n / 128 * 128) * p := by rw [Nat.mul_assoc]
      rw [e3, Nat.add_assoc, ← Nat.add_mul, show n % 128 + n / 128 * 128 = n by omega]
    · rw [if_neg h]
      show rdN (F + 1) i acc (n :: rest) = _
      unfold rdN
      rw [if_pos (by omega), if_neg (by rintro ⟨q, r⟩; have := hz q; omega), show n % 128 = n by omega]
theorem numR_enc (n : Nat) (rest : List Nat) (h : n < 9223372036854775808) : numR (encN n ++ rest) = (n, rest, false) := by
  unfold numR encN
  rw [rdN_enc 9 9 0 0 n rest h (Nat.le_refl _) (by omega) (fun _ => rfl)]
  simp
/-- a nil reader's bytes -/
theorem bclone_nil (c : Nat) (w : World) : Calls Try.prog 72 #[.slice none 0 c] w fun e w' => e = .returned (.slice none 0 0) ∧ w' = w := by
  have hs : ∀ w : World, (binOp .eql 34 (.slice none 0 c) (.slice none 0 0)).run Try.prog w = .ok (.bool true) w := fun _ => rfl
  go_enter Try.func72, Try.ntmps72
  go_wp2
  go_ret
  exact ⟨rfl, rfl⟩
theorem newreader_bs (v : Value) (l : List Nat) (w : World) (h : IsBs w v l) (hlen : l.length ≤ 1000000) : Calls Try.prog 41 #[v] w fun e w' => ∃ w0 rb, e = .returned (.pointer (some ⟨rb, 0, none⟩)) ∧ IsRd w0 w' rb l false ∧ w.heap.size ≤ rb ∧ Below w.heap.size w w' := by
  obtain ⟨a, c, rfl, -, -, hx⟩ := id h
  cases a with
  | some a => exact newreader_any a l.length c l w h hlen
  | none =>
    have hl : l = [] := by
      cases l with
      | nil => rfl
      | cons x xs => obtain ⟨b, off, e, -⟩ := hx (by simp); cases e
    subst hl
    have Hc := Lib.hid (bclone_nil c w)
    clear h hx
    go_enter Try.func41, Try.ntmps41
    go_wp2_with fail
    refine Hc.out.mono ?_
    rintro e w2 ⟨rfl, rfl⟩
    go_wp2
    go_ret
    refine ⟨w2, _, rfl, ⟨⟨_, by show (w2.heap.push _)[w2.heap.size]? = _; simp, isSl_nil byteC 1 w2 none 0 (by unfold maxLen; omega)⟩, (Below.refl _ _).alloc (Nat.le_refl _) _, Nat.le_refl _⟩, Nat.le_refl _, (Below.refl _ _).alloc (Nat.le_refl _) _⟩
set_option maxHeartbeats 1600000 in
theorem raw_zero (w0 w : World) (rb : Nat) (bs : List Nat) (h : IsRd w0 w rb bs false) :
    Calls Try.prog 87 #[.pointer (some ⟨rb, 0, none⟩), .int .i64 0] w fun e w' => (∃ a, e = .returned (.slice a 0 0)) ∧ IsRd w0 w' rb bs false ∧ w.grownBy w' (some rb) := by
  have H := Lib.hid h
  obtain ⟨⟨v, hblk, hbs⟩, hbel, hold⟩ := h
  obtain ⟨a, c, rfl, -, -, -⟩ := id hbs
  obtain ⟨-, hc, hm, hx⟩ := hbs.at
  have Hbs := Lib.hid hbs
  have c0 : w.cell? ⟨rb, 0, none⟩ = some (.slice a bs.length c) := by rw [cell_blkR hblk]; rfl
  have c1 : w.cell? ⟨rb, 1, none⟩ = some (.bool false) := by rw [cell_blkR hblk]; rfl
  have f0 : w.frozen? ⟨rb, 0, none⟩ = false := frozen_blkR hblk 0
  have n0 : ¬ ((0 : Int) < 0) := by omega
  have n1 : ¬ ((bs.length : Int) < (0 : Int)) := by omega
  have n2 : 0 ≤ c := by omega
  have hnil : bs.length = 0 → ∀ a2 c2, c2 ≤ maxLen → IsBs w0 (.slice a2 0 c2) bs := fun h0 a2 c2 h2 => by
    obtain rfl := List.eq_nil_of_length_eq_zero h0
    exact isSl_nil _ _ _ _ _ h2
  have Hnil := Lib.hid hnil
  have hx2 : 0 < bs.length → ∃ b off, a = some ⟨b, off, none⟩ := fun h0 => by
    obtain ⟨b, off, e, -⟩ := hx h0
    exact ⟨b, off, e⟩
  by_cases hbl : bs.length = 0
  · have Hbl := Lib.hid hbl
    clear hblk hbs hbel hold hx hnil hx2
    rw [hbl] at c0 n1 hc
    by_cases hc0 : c = 0
    · subst hc0
      cases a with
      | none =>
        go_enter Try.func87, Try.ntmps87
        go_wp2
        go_ret
        exact ⟨⟨_, rfl⟩, H.out.store0 _ (Hnil.out Hbl.out _ _ (by unfold maxLen; omega)), grown_setCellR _ _ _ _⟩
      | some a =>
        go_enter Try.func87, Try.ntmps87
        go_wp2
        go_ret
        exact ⟨⟨_, rfl⟩, H.out.store0 _ (Hnil.out Hbl.out _ _ (by unfold maxLen; omega)), grown_setCellR _ _ _ _⟩
    · cases a with
      | none =>
        go_enter Try.func87, Try.ntmps87
        go_wp2
        go_ret
        exact ⟨⟨_, rfl⟩, H.out.store0 _ (Hnil.out Hbl.out _ _ (by unfold maxLen; omega)), grown_setCellR _ _ _ _⟩
      | some a =>
        go_enter Try.func87, Try.ntmps87
        go_wp2
        go_ret
        exact ⟨⟨_, rfl⟩, H.out.store0 _ (Hnil.out Hbl.out _ _ (by unfold maxLen; omega)), grown_setCellR _ _ _ _⟩
  · obtain ⟨b, off, rfl⟩ := hx2 (by omega)
    have hc0 : ¬ c = 0 := by omega
    clear hblk hbs hbel hold hx hnil
    go_enter Try.func87, Try.ntmps87
    go_wp2
    go_ret
    exact ⟨⟨_, rfl⟩, H.out.store0 _ Hbs.out, grown_setCellR _ _ _ _⟩
/-- a text of a reader: its bytes, what is left, whether it was wrong -/
def txtR (bad : Bool) (bs : List Nat) : List Nat × List Nat × Bool := if (numB bad bs).2.2 = true ∨ (numB bad bs).2.1.length < (numB bad bs).1 then ([], (numB bad bs).2.1, true) else ((numB bad bs).2.1.take (numB bad bs).1, (numB bad bs).2.1.drop (numB bad bs).1, false)
theorem raw_any (w0 w : World) (rb : Nat) (bs : List Nat) (bad : Bool) (n : Nat) (h : IsRd w0 w rb bs bad) :
    Calls Try.prog 87 #[.pointer (some ⟨rb, 0, none⟩), .int .i64 n] w fun e w' => ∃ v, e = .returned v ∧ IsBs w0 v (if bad = true ∨ bs.length < n then [] else bs.take n) ∧ IsRd w0 w' rb (if bad = true ∨ bs.length < n then bs else bs.drop n) (if bad = true ∨ bs.length < n then true else false) ∧ w.grownBy w' (some rb) := by
  by_cases q : bad = true ∨ bs.length < n
  · rw [if_pos q, if_pos q, if_pos q]
    refine (raw_bad w0 w rb bs bad n h (by rcases q with q | q; exact .inl q; exact .inr (.inr (by omega)))).mono ?_
    rintro e w' ⟨rfl, h2, hg⟩
    exact ⟨_, rfl, isSl_nil _ _ _ _ _ (by unfold maxLen; omega), h2, hg⟩
  · rw [if_neg q, if_neg q, if_neg q]
    obtain rfl : bad = false := by cases bad with
      | true => exact absurd (.inl rfl) q
      | false => rfl
    have hle : n ≤ bs.length := by
      rcases Nat.lt_or_ge bs.length n with h1 | h1
      · exact absurd (.inr h1) q
      · exact h1
    by_cases hn : n = 0
    · subst hn
      refine (raw_zero w0 w rb bs h).mono ?_
      rintro e w' ⟨⟨a, rfl⟩, h2, hg⟩
      rw [List.take_zero, List.drop_zero]
      exact ⟨_, rfl, isSl_nil _ _ _ _ _ (by unfold maxLen; omega), h2, hg⟩
    · refine (raw_ok w0 w rb bs n h (by omega) hle).mono ?_
      rintro e w' ⟨b, off, rfl, h1, h2, hg⟩
      exact ⟨_, rfl, h1, h2, hg⟩
theorem rdtext_any (w0 w : World) (rb : Nat) (bs : List Nat) (bad : Bool) (h : IsRd w0 w rb bs bad) (hb : ∀ x ∈ bs, x < 256) :
    Calls Try.prog 76 #[.pointer (some ⟨rb, 0, none⟩)] w fun e w' => ∃ v, e = .returned v ∧ IsBs w0 v (txtR bad bs).1 ∧ IsRd w0 w' rb (txtR bad bs).2.1 (txtR bad bs).2.2 ∧ w.grownBy w' (some rb) := by
  have Hn := Lib.hid (num_any w0 w rb bs bad h hb)
  obtain ⟨⟨n, cs, b2⟩, hp⟩ : ∃ p, p = numB bad bs := ⟨_, rfl⟩
  obtain ⟨t1, h1⟩ : ∃ t, t = if b2 = true ∨ cs.length < n then [] else cs.take n := ⟨_, rfl⟩
  obtain ⟨t2, h2⟩ : ∃ t, t = if b2 = true ∨ cs.length < n then cs else cs.drop n := ⟨_, rfl⟩
  obtain ⟨t3, h3⟩ : ∃ t, t = if b2 = true ∨ cs.length < n then true else false := ⟨_, rfl⟩
  have ht : txtR bad bs = (t1, t2, t3) := by
    unfold txtR; rw [← hp, h1, h2, h3]; dsimp only
    by_cases q : b2 = true ∨ cs.length < n
    · rw [if_pos q, if_pos q, if_pos q, if_pos q]
    · rw [if_neg q, if_neg q, if_neg q, if_neg q]
  have H1 := Lib.hid h1
  have H2e := Lib.hid h2
  have H3e := Lib.hid h3
  rw [← hp] at Hn
  dsimp only at Hn
  rw [ht]
  clear h hb hp ht h1 h2 h3
  go_enter Try.func76, Try.ntmps76
  go_wp2_with fail
  refine Hn.out.mono ?_
  rintro e w2 ⟨rfl, h2, hg2⟩
  have hr := raw_any w0 w2 rb cs b2 n h2
  rw [← H1.out, ← H2e.out, ← H3e.out] at hr
  have Hr := Lib.hid hr
  clear hr
  have Hg2 := Lib.hid hg2
  clear h2 hg2 Hn
  go_wp2_with fail
  refine Hr.out.mono ?_
  rintro e w3 ⟨v, rfl, h3, h4, hg3⟩
  have Hg3 := Lib.hid (Hg2.out.trans hg3)
  obtain ⟨a, c, rfl, -, -, -⟩ := id h3
  have H3 := Lib.hid h3
  have H4 := Lib.hid h4
  clear h3 h4 hg3 Hr
  go_wp2_with fail
  go_ret
  exact ⟨_, rfl, H3.out, H4.out, Hg3.out⟩
end Go.Proofs.Ythjjelomlgmllaa.Tithe
