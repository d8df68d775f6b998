/- Pointers to great values: Check, Text, Parse: walked. -/
import Derived.Test.YtkjfjcigmmooiaaWireWrite
import Derived.Deep.RegionHeld3
import Derived.Laws.IdiomStrings
namespace Go.Proofs.Ytkjfjcigmmooiaa.Tithe
open Go.RowKit Go.Sort
set_option linter.unusedVariables false
set_option maxRecDepth 100000
def okP (z a l : Int) : Bool := decide (0 ≤ z) && decide (z < 64) && decide (0 ≤ a) && decide (a ≤ 65536) && decide (1 ≤ l) && decide (l ≤ 65536)
def chkP (z a l : Int) : Int := if okP z a l then 0 else 140
theorem chkP_bad {z a l : Int} (h : z < 0 ∨ 64 ≤ z ∨ a < 0 ∨ 65536 < a ∨ l < 1 ∨ 65536 < l) : chkP z a l = 140 := by
  unfold chkP okP
  rw [if_neg]
  simp only [Bool.and_eq_true, decide_eq_true_eq]
  omega
theorem chkP_ok {z a l : Int} (h : ¬ (z < 0 ∨ 64 ≤ z ∨ a < 0 ∨ 65536 < a ∨ l < 1 ∨ 65536 < l)) : chkP z a l = 0 := by
  unfold chkP okP
  rw [if_pos]
  simp only [Bool.and_eq_true, decide_eq_true_eq]
  omega
set_option maxHeartbeats 800000 in
theorem pcheck_any (z a l : Int) (w : World) : Calls Try.prog 32 #[.agg #[.int .i64 z, .int .i64 a, .int .i64 l]] w fun e w' => e = .returned (.int .i64 (chkP z a l)) ∧ Below w.heap.size w w' := by
  go_enter Try.func32, Try.ntmps32
  go_wp2
  all_goals go_ret
  all_goals refine ⟨?_, (Below.refl _ _).alloc (Nat.le_refl _) _⟩
  all_goals first
    | (rw [chkP_bad (by omega)]; rfl)
    | (rw [chkP_ok (by omega)]; rfl)
theorem cell_bel {B : Nat} {w w' : World} (hb : Below B w w') {b i : Nat} {v : Value} (hlt : b < B) (h : w.cell? ⟨b, i, none⟩ = some v) : w'.cell? ⟨b, i, none⟩ = some v := (hb.cell (p := ⟨b, i, none⟩) hlt).trans h
theorem encF_len : ∀ (f n : Nat), 1 ≤ (encF f n).length ∧ (encF f n).length ≤ f + 1
  | 0, n => ⟨Nat.le_refl _, Nat.le_refl _⟩
  | f + 1, n => by
    have := encF_len f (n / 128)
    unfold encF
    split
    · rw [List.length_cons]; omega
    · simp
theorem IsWr.drew {w : World} {base wb : Nat} {bs : List Nat} (h : IsWr w base wb bs) : IsWr w.drew base wb bs := ⟨h.ex, h.lt, h.le⟩
def strOf (l : List Nat) : ByteArray := ⟨(l.map UInt8.ofNat).toArray⟩
def textL (z a l : Nat) : List Nat := encN z ++ encN a ++ encN l
theorem encF_b : ∀ (f n : Nat), n < 2 ^ (7 * f) → ∀ x ∈ encF f n, x < 256
  | 0, n, h, x, hx => by
    simp only [encF, List.mem_cons, List.not_mem_nil, or_false] at hx
    simp at h
    omega
  | f + 1, n, h, x, hx => by
    unfold encF at hx
    split at hx
    · rcases List.mem_cons.1 hx with rfl | hx
      · omega
      · refine encF_b f (n / 128) ?_ x hx
        have e : 2 ^ (7 * (f + 1)) = 2 ^ (7 * f) * 128 := by rw [Nat.mul_add, Nat.mul_one, Nat.pow_add]
        rw [e] at h
        exact Nat.div_lt_of_lt_mul (by rw [Nat.mul_comm]; exact h)
    · simp only [List.mem_cons, List.not_mem_nil, or_false] at hx
      omega
theorem encN_byte {n : Nat} (h : n < 9223372036854775808) : ∀ x ∈ encN n, x < 256 := encF_b 9 n h
theorem textL_byte (z a l : Nat) (hz : z < 9223372036854775808) (ha : a < 9223372036854775808) (hl : l < 9223372036854775808) : ∀ x ∈ textL z a l, x < 256 := by
  intro x hx
  unfold textL at hx
  rcases List.mem_append.1 hx with hx | hx
  · rcases List.mem_append.1 hx with hx | hx
    · exact encN_byte hz x hx
    · exact encN_byte ha x hx
  · exact encN_byte hl x hx
theorem conv_back (w : World) (base g c : Nat) (bs : List Nat) (h : w.ownsRow base 5 1 (.slice (some ⟨g, 0, none⟩) bs.length c) bs.length (flat byteC bs)) (hb : ∀ x ∈ bs, x < 256) :
    (convert 78 9 (.slice (some ⟨g, 0, none⟩) bs.length c)).run Try.prog w = .ok (.string (strOf bs)) w := by
  have := run_convert_bytes_back (P := Try.prog) w 78 9 5 ⟨g, 0, none⟩ c (bs.map UInt8.ofNat) Try.underlying78 Try.underlying5 Try.underlying9 (fun j hj => by
    rw [List.length_map] at hj
    have hx := List.getElem?_eq_getElem hj
    have h1 := flat_get byteC_len bs j _ hx 0 _ rfl
    rw [Nat.mul_one, Nat.add_zero] at h1
    rw [h.cells rfl _ _ h1, List.getElem_map]
    congr 2
    have := hb _ (List.getElem_mem hj)
    simp [UInt8.toNat_ofNat']
    omega)
  rw [List.length_map] at this
  exact this
set_option maxHeartbeats 1600000 in
theorem text_ok (z a l : Nat) (w : World) (hok : okP z a l = true) :
    Calls Try.prog 13 #[.agg #[.int .i64 z, .int .i64 a, .int .i64 l]] w fun e w' => e = .returned (.tuple #[.string (strOf (textL z a l)), .int .i64 0]) ∧ Below w.heap.size w w' := by
  have hc := fun w => pcheck_any z a l w
  have hc0 : chkP z a l = 0 := by unfold chkP; rw [if_pos hok]
  rw [hc0] at hc
  have Hc := Lib.hid hc
  have hb : z < 64 ∧ a ≤ 65536 ∧ l ≤ 65536 := by
    unfold okP at hok
    simp only [Bool.and_eq_true, decide_eq_true_eq] at hok
    omega
  obtain ⟨hz, ha, hl⟩ := hb
  clear hc hc0 hok
  go_enter Try.func13, Try.ntmps13
  go_wp2_with fail
  refine (Hc.out _).mono ?_
  rintro e w1 ⟨rfl, hb1⟩
  go_wp2_with fail
  have hb1s := hb1.size
  have hbx : (w.alloc (.cells #[.int .i64 (z : Int), .int .i64 (a : Int), .int .i64 (l : Int)] 39)).heap.size = w.heap.size + 1 := by simp
  rw [hbx] at hb1s
  have q0 : w1.cell? ⟨w.heap.size, 0, none⟩ = some (.int .i64 (z : Int)) := by rw [hb1.cell (by rw [hbx]; exact Nat.lt_succ_self _), World.cell?_alloc_mark]; rfl
  have q1 : w1.cell? ⟨w.heap.size, 1, none⟩ = some (.int .i64 (a : Int)) := by rw [hb1.cell (by rw [hbx]; exact Nat.lt_succ_self _), World.cell?_alloc_mark]; rfl
  have q2 : w1.cell? ⟨w.heap.size, 2, none⟩ = some (.int .i64 (l : Int)) := by rw [hb1.cell (by rw [hbx]; exact Nat.lt_succ_self _), World.cell?_alloc_mark]; rfl
  have hbw : Below w.heap.size w w1 := ((Below.refl _ _).alloc (Nat.le_refl _) _).trans (hb1.mono (by rw [hbx]; omega))
  have hbW : Below w.heap.size w (w1.alloc (.cells #[.slice none 0 0, .bool false] 80)) := hbw.alloc hbw.size _
  have hWr : IsWr (w1.alloc (.cells #[.slice none 0 0, .bool false] 80)) (w1.heap.size + 1) w1.heap.size [] := ⟨⟨_, by show (w1.heap.push _)[w1.heap.size]? = _; simp, World.ownsRow_nil _ _ _ _⟩, Nat.lt_succ_self _, by simp⟩
  have r0 : (w1.alloc (.cells #[.slice none 0 0, .bool false] 80)).cell? ⟨w.heap.size, 0, none⟩ = some (.int .i64 (z : Int)) := by rw [World.cell?_alloc_lt _ _ _ (block_lt_of_cell q0)]; exact q0
  have r1 : (w1.alloc (.cells #[.slice none 0 0, .bool false] 80)).cell? ⟨w.heap.size, 1, none⟩ = some (.int .i64 (a : Int)) := by rw [World.cell?_alloc_lt _ _ _ (block_lt_of_cell q1)]; exact q1
  have r2 : (w1.alloc (.cells #[.slice none 0 0, .bool false] 80)).cell? ⟨w.heap.size, 2, none⟩ = some (.int .i64 (l : Int)) := by rw [World.cell?_alloc_lt _ _ _ (block_lt_of_cell q2)]; exact q2
  have hlt : w.heap.size < w1.heap.size := by omega
  have HbW := Lib.hid hbW
  have hWs : w.heap.size ≤ (w1.alloc (.cells #[.slice none 0 0, .bool false] 80)).heap.size := hbW.size
  have HWs := Lib.hid hWs
  have Hn1 := Lib.hid (wnumber_any _ _ _ [] z hWr.drew (by omega) (by simp))
  clear hb1 hbx hbw hbW hWr q0 q1 q2 hWs
  generalize w1.alloc (.cells #[.slice none 0 0, .bool false] 80) = W at *
  have el := fun n => encF_len 9 n
  have El := Lib.hid el
  clear el
  go_region_held3 (fun w' => w'.cell? ⟨w.heap.size, 0, none⟩ = some (.int .i64 (z : Int)) ∧ w'.cell? ⟨w.heap.size, 1, none⟩ = some (.int .i64 (a : Int)) ∧ w'.cell? ⟨w.heap.size, 2, none⟩ = some (.int .i64 (l : Int)))
    (first | go_keep | skip)
    ((first
    | (go_at_call 33; (with_reducible refine Hn1.out.mono ?_); rintro e w2 ⟨rfl, hi2, hb2⟩; have s0 := cell_bel hb2 hlt r0; have s1 := cell_bel hb2 hlt r1; have s2 := cell_bel hb2 hlt r2; have Hb2 := Lib.hid hb2; have Hn2 := Lib.hid (wnumber_any _ _ _ _ a hi2 (by omega) (by have := El.out z; show (encF 9 z).length ≤ _; omega)); clear hi2 hb2)
    | (go_at_call 33; (with_reducible refine Hn2.out.mono ?_); rintro e w3 ⟨rfl, hi3, hb3⟩; have t0 := cell_bel hb3 hlt s0; have t1 := cell_bel hb3 hlt s1; have t2 := cell_bel hb3 hlt s2; have Hb3 := Lib.hid hb3; have Hn3 := Lib.hid (wnumber_any _ _ _ _ l hi3 (by omega) (by have := El.out z; have := El.out a; show (encF 9 z ++ encF 9 a).length ≤ _; rw [List.length_append]; omega)); clear hi3 hb3)
    | (go_at_call 33; (with_reducible refine Hn3.out.mono ?_); rintro e w4 ⟨rfl, hi4, hb4⟩; have u0 := cell_bel hb4 hlt t0; have u1 := cell_bel hb4 hlt t1; have u2 := cell_bel hb4 hlt t2; have Hb4 := Lib.hid hb4; have Hby := Lib.hid (wbytes_any _ _ _ _ hi4 (by have := El.out z; have := El.out a; have := El.out l; show (encF 9 z ++ encF 9 a ++ encF 9 l).length ≤ _; rw [List.length_append, List.length_append]; omega) (by have := El.out z; show 0 < (encF 9 z ++ encF 9 a ++ encF 9 l).length; rw [List.length_append, List.length_append]; omega)); clear hi4 hb4)
    | (go_at_call 34; (with_reducible refine Hby.out.mono ?_); rintro e w5 ⟨v5, rfl, ho5, hb5⟩; obtain ⟨g5, c5, rfl, hg5, hl5⟩ := ho5.form (by have := El.out z; show 0 < (encF 9 z ++ encF 9 a ++ encF 9 l).length; rw [List.length_append, List.length_append]; omega); have v0 := cell_bel hb5 (block_lt_of_cell u0) u0; have v1 := cell_bel hb5 (block_lt_of_cell u1) u1; have v2 := cell_bel hb5 (block_lt_of_cell u2) u2; have Ho5 := Lib.hid ho5; have Hb5 := Lib.hid hb5; clear ho5 hb5)))
  have hlenL : (textL z a l).length = (encN z).length + ((encN a).length + (encN l).length) := by
    unfold textL; rw [List.length_append, List.length_append, Nat.add_assoc]
  have ho : w5.ownsRow w4.heap.size 5 1 (.slice (some ⟨g5, 0, none⟩) (textL z a l).length c5) (textL z a l).length (flat byteC (textL z a l)) := by
    have := Ho5.out
    rw [hlenL]
    first | exact this | simpa [textL] using this
  have hconv := conv_back w5 w4.heap.size g5 c5 (textL z a l) ho (textL_byte z a l (by omega) (by omega) (by omega))
  have hb234 : Below w1.heap.size W.drew w4 := (Hb2.out.trans Hb3.out).trans Hb4.out
  have hbf : Below w.heap.size w w5 := ((HbW.out.trans ((Below.refl w.heap.size W).drew)).trans (hb234.mono (Nat.le_of_lt hlt))).trans (Hb5.out.mono (Nat.le_of_lt (block_lt_of_cell u0)))
  have Hbf := Lib.hid hbf
  rw [hlenL] at hconv
  obtain ⟨L, hL⟩ : ∃ L, L = (encN z).length + ((encN a).length + (encN l).length) := ⟨_, rfl⟩
  rw [← hL] at hconv ⊢
  clear hlenL ho hbf hL
  obtain ⟨S, hS⟩ : ∃ S, S = strOf (textL z a l) := ⟨_, rfl⟩
  rw [← hS] at hconv
  have HS := Lib.hid hS
  clear hS
  go_wp2
  go_ret2
  exact ⟨by rw [← HS.out]; rfl, Hbf.out⟩
set_option maxHeartbeats 800000 in
theorem text_bad (z a l : Int) (w : World) (hok : okP z a l = false) :
    Calls Try.prog 13 #[.agg #[.int .i64 z, .int .i64 a, .int .i64 l]] w fun e w' => e = .returned (.tuple #[.string ⟨#[]⟩, .int .i64 140]) ∧ Below w.heap.size w w' := by
  have hc := fun w => pcheck_any z a l w
  have hc0 : chkP z a l = 140 := by unfold chkP; rw [hok]; rfl
  rw [hc0] at hc
  have Hc := Lib.hid hc
  clear hc hc0 hok
  go_enter Try.func13, Try.ntmps13
  go_wp2_with fail
  refine (Hc.out _).mono ?_
  rintro e w1 ⟨rfl, hb1⟩
  have hbx : Below w.heap.size w (w.alloc (.cells #[.int .i64 z, .int .i64 a, .int .i64 l] 39)) := (Below.refl _ _).alloc (Nat.le_refl _) _
  have Hb1 := Lib.hid (hbx.trans (hb1.mono hbx.size))
  clear hb1 hbx
  go_wp2
  go_ret2
  exact ⟨rfl, Hb1.out⟩
def bytesOf (s : ByteArray) : List Nat := s.data.toList.map UInt8.toNat
theorem bytesOf_len (s : ByteArray) : (bytesOf s).length = s.size := by unfold bytesOf; rw [List.length_map]; obtain ⟨⟨l⟩⟩ := s; rfl
theorem bytesOf_lt (s : ByteArray) : ∀ x ∈ bytesOf s, x < 256 := by
  intro x hx
  unfold bytesOf at hx
  obtain ⟨b, -, rfl⟩ := List.mem_map.1 hx
  exact b.toNat_lt
theorem bytesOf_strOf {l : List Nat} (h : ∀ x ∈ l, x < 256) : bytesOf (strOf l) = l := by
  unfold bytesOf strOf
  show ((l.map UInt8.ofNat)).map UInt8.toNat = l
  rw [List.map_map]
  conv => rhs; rw [← List.map_id l]
  apply List.map_congr_left
  intro x hx
  have := h x hx
  simp [UInt8.toNat_ofNat']
  omega
/-! ### Parse -/
def parseP (bs : List Nat) : Option (Nat × Nat × Nat) :=
  let r1 := numR bs
  let r2 := if r1.2.2 then (0, r1.2.1, true) else numR r1.2.1
  let r3 := if r2.2.2 then (0, r2.2.1, true) else numR r2.2.1
  if !r3.2.2 && r3.2.1.isEmpty && okP r1.1 r2.1 r3.1 then some (r1.1, r2.1, r3.1) else none
set_option maxHeartbeats 800000 in
theorem number_bad (w0 w : World) (rb : Nat) (bs : List Nat) (h : IsRd w0 w rb bs true) :
    Calls Try.prog 54 #[.pointer (some ⟨rb, 0, none⟩)] w fun e w' => e = .returned (.int .i64 0) ∧ IsRd w0 w' rb bs true ∧ w.grownBy w' (some rb) := by
  have hb := byte_none w0 w rb bs true h (.inl rfl)
  have Hb := Lib.hid hb
  clear hb h
  go_enter Try.func54, Try.ntmps54
  go_wp2
  go_loopw [3, 6] (fun nv iv wr => nv = .int .i64 0 ∧ iv = .int .i64 0 ∧ wr = w) (fun _ _ _ => 0)
  case atStart => exact ⟨rfl, rfl, rfl⟩
  case round =>
    obtain ⟨rfl, rfl, rfl⟩ := hrel
    go_wp2_with fail
    refine Hb.out.mono ?_
    rintro e w2 ⟨rfl, h2, hg2⟩
    have c1 : w2.cell? ⟨rb, 1, none⟩ = some (.bool true) := by
      obtain ⟨⟨v, hblk, -⟩, -, -⟩ := h2
      rw [cell_blkR hblk]; rfl
    have H2 := Lib.hid h2
    have Hg2 := Lib.hid hg2
    clear h2 hg2
    go_wp2
    go_ret
    exact ⟨rfl, H2.out, Hg2.out⟩
/-- a number of a reader, wrong or not -/
def numB (bad : Bool) (bs : List Nat) : Nat × List Nat × Bool := if bad then (0, bs, true) else numR bs
theorem num_any (w0 w : World) (rb : Nat) (bs : List Nat) (bad : Bool) (h : IsRd w0 w rb bs bad) (hb : ∀ x ∈ bs, x < 256) :
    Calls Try.prog 54 #[.pointer (some ⟨rb, 0, none⟩)] w fun e w' => e = .returned (.int .i64 (numB bad bs).1) ∧ IsRd w0 w' rb (numB bad bs).2.1 (numB bad bs).2.2 ∧ w.grownBy w' (some rb) := by
  cases bad with
  | true => exact number_bad w0 w rb bs h
  | false => exact number_any w0 w rb bs h hb
end Go.Proofs.Ytkjfjcigmmooiaa.Tithe
