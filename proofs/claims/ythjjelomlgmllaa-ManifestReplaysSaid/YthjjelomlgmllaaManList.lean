/- manifest.list and manifest.key put into a writer: walked (printed by mkmanlist.py). -/
import Derived.Test.YthjjelomlgmllaaManZone
import Derived.Test.YthjjelomlgmllaaManKeyB
namespace Go.Proofs.Ythjjelomlgmllaa.Tithe
open Go.RowKit Go.Sort Go.Shelf
set_option linter.unusedVariables false
set_option linter.unusedSimpArgs false
set_option maxRecDepth 100000
theorem IsWr.notOwn {w : World} {base wb s : Nat} {bs : List Nat} (h : IsWr w base wb bs) {cs : Array Value} {t : TypeId} {fr : Nat × Nat} (hs : w.heap[s]? = some (.cells cs t fr)) (ht : t ≠ 5) : NotOwn w wb s := by
  intro v b hv e
  obtain ⟨v2, hv2, ho⟩ := h.ex
  rw [hv2] at hv
  injection hv with hv
  injection hv with hv _ _
  have : v2 = v := by injection hv with hv; injection hv
  subst this
  obtain ⟨cur, hc⟩ := own_rowblk ho s e
  rw [hs] at hc
  injection hc with hc
  injection hc with _ hc _
  exact ht hc
/-- the bytes of a row of numbers -/
def encZs (l : List Int) : List Nat := encN l.length ++ l.flatMap fun z => encN z.toNat
theorem flatMap_le {α : Type} (f : α → List Nat) (b : Nat) (hf : ∀ x, (f x).length ≤ b) : ∀ l : List α, (l.flatMap f).length ≤ b * l.length
  | [] => by simp
  | x :: t => by
    have := flatMap_le f b hf t
    have := hf x
    rw [List.flatMap_cons, List.length_append, List.length_cons, Nat.mul_succ]
    omega
theorem take_flat {α : Type} (f : α → List Nat) {l : List α} {k : Nat} {x : α} (h : l[k]? = some x) : (l.take (k + 1)).flatMap f = (l.take k).flatMap f ++ f x := by
  obtain ⟨h1, h2⟩ := List.getElem?_eq_some_iff.1 h
  rw [List.take_succ_eq_append_getElem h1, List.flatMap_append, h2]; simp
attribute [local go_sem] Oper.semAt_some
set_option maxHeartbeats 1600000 in
theorem mlist_any (w0 w : World) (base wb : Nat) (bs : List Nat) (vl : Value) (ls : List Int) (h : IsWr w base wb bs) (hl : IsZs w0 vl ls) (hb0 : Below w0.heap.size w0 w) (hw0 : w0.heap.size ≤ wb) (hz : ∀ z ∈ ls, 0 ≤ z ∧ z < 64) (hn : ls.length ≤ 64) (hbl : bs.length ≤ 90000) :
    Calls Try.prog 31 #[.pointer (some ⟨wb, 0, none⟩), vl] w fun e w' => e = .returned (.tuple #[]) ∧ IsWr w' base wb (bs ++ encZs ls) ∧ Below wb w w' ∧ FarW w w' wb := by
  obtain ⟨a, c, rfl, -, -, -⟩ := id hl
  obtain ⟨-, -, -, hx⟩ := hl.at
  obtain ⟨n, hnn⟩ : ∃ q, q = ls.length := ⟨_, rfl⟩
  have Hnum := Lib.hid (wnum_any w base wb bs n h (by omega) (by omega))
  have Hl1 : Hid ((bs ++ encN n).length ≤ 90010) := Lib.hid (by rw [List.length_append]; have := encN_le n; omega)
  have HE : Hid (bs ++ encZs ls = (bs ++ encN n) ++ ls.flatMap fun z => encN z.toNat) := Lib.hid (by unfold encZs; rw [hnn, List.append_assoc])
  rw [← hnn] at hx hn ⊢
  have Hx := Lib.hid hx
  have Hz := Lib.hid hz
  have Hn := Lib.hid hnn
  have HB0 := Lib.hid hb0
  generalize encZs ls = EZ at HE ⊢
  clear h hx hz hnn hb0 hl
  go_enter Try.func31, Try.ntmps31
  go_wp2_with fail
  refine Hnum.out.mono ?_
  rintro e w1 ⟨rfl, h1, hb1, hf1⟩
  have H1 := Lib.hid h1
  have HB1 := Lib.hid hb1
  have HF1 := Lib.hid hf1
  clear h1 hb1 hf1 Hnum
  go_wp2_with fail
  go_loopw [12] (fun iv wr => ∃ k : Nat, k ≤ n ∧ iv = .int .i64 k ∧ IsWr wr base wb ((bs ++ encN n) ++ (ls.take k).flatMap fun z => encN z.toNat) ∧ Below wb w wr ∧ FarW w wr wb) (fun i _ => n - (intOf i).toNat)
  case atStart => exact ⟨0, Nat.zero_le _, rfl, by rw [List.take_zero, List.flatMap_nil, List.append_nil]; exact H1.out, HB1.out, HF1.out⟩
  case round =>
    clear H1 HB1 HF1
    obtain ⟨wo, rfl⟩ : ∃ wo : World, wo = wr := ⟨_, rfl⟩
    obtain ⟨k, hk, rfl, hwr, hbw, hfw⟩ := hrel
    have Hwr := Lib.hid hwr
    have Hbw := Lib.hid hbw
    have Hfw := Lib.hid hfw
    clear hwr hbw hfw
    by_cases hkn : k < n
    · obtain ⟨b, off, rfl, hcell⟩ := Hx.out (by omega)
      obtain ⟨z, hzk⟩ : ∃ z, ls[k]? = some z := ⟨_, List.getElem?_eq_getElem (by rw [← Hn.out]; exact hkn)⟩
      have hzz := Hz.out z (List.mem_of_getElem? hzk)
      obtain ⟨z, rfl⟩ : ∃ y : Nat, z = y := ⟨z.toNat, by omega⟩
      have c0 := IsZs.row hcell hzk
      have d0 := ((HB0.out.trans (Hbw.out.mono hw0)).cell (block_lt_of_cell c0)).trans c0
      have ht := take_flat (fun z : Int => encN z.toNat) hzk
      have hlen : ((bs ++ encN n) ++ (ls.take k).flatMap fun z : Int => encN z.toNat).length ≤ 100000 := by
        rw [List.length_append]
        have h1 := Hl1.out
        have h2 := flatMap_le (fun z : Int => encN z.toNat) 10 (fun z => encN_le _) (ls.take k)
        have h3 : (ls.take k).length ≤ k := List.length_take_le _ _
        omega
      have hnum := wnum_any wo base wb _ z Hwr.out (by omega) hlen
      rw [List.append_assoc, ← show (ls.take (k + 1)).flatMap (fun z : Int => encN z.toNat) = (ls.take k).flatMap (fun z : Int => encN z.toNat) ++ encN z from ht] at hnum
      have Hnum := Lib.hid hnum
      clear c0 hcell hzk ht hlen hnum
      go_wp2_with fail
      refine Hnum.out.mono ?_
      rintro e w2 ⟨rfl, h2, hb2, hf2⟩
      have H2 := Lib.hid h2
      have HB2 := Lib.hid (Hbw.out.trans hb2)
      have HF2 := Lib.hid (Hfw.out.trans hf2)
      clear h2 hb2 hf2 Hnum
      go_wp2_with fail
      go_roundw
      case rel => exact ⟨k + 1, by omega, by go_num, H2.out, HB2.out, HF2.out⟩
      case measure => simp [intOf]; omega
    · obtain rfl : k = n := by omega
      have Hfin : Hid (bs ++ EZ = (bs ++ encN k) ++ (ls.take k).flatMap fun z => encN z.toNat) := Lib.hid (by rw [HE.out, List.take_of_length_le (by rw [← Hn.out]; exact Nat.le_refl _)])
      go_wp2_with fail
      go_end0
      exact ⟨rfl, by rw [Hfin.out]; exact Hwr.out, Hbw.out, Hfw.out⟩
set_option maxHeartbeats 1600000 in
theorem mkey_any (w : World) (base wb : Nat) (bs : List Nat) (k : Ky) (h : IsWr w base wb bs) (hk : okK k = true) (hbl : bs.length ≤ 90000) :
    Calls Try.prog 32 #[.pointer (some ⟨wb, 0, none⟩), k.v] w fun e w' => e = .returned (.tuple #[]) ∧ IsWr w' base wb (bs ++ (encN (encK k).length ++ encK k)) ∧ Below wb w w' ∧ FarW w w' wb := by
  have hkb := fun X => kbytes_any k hk X
  have hkl := encK_len k
  have hku : k.u.size ≤ 64 := by
    simp only [okK, Bool.and_eq_true, decide_eq_true_eq] at hk
    omega
  have hkp : 0 < (encK k).length := by unfold encK; simp only [List.length_append, List.length_cons, List.length_nil]; omega
  obtain ⟨u, s, kd⟩ := k
  unfold Ky.v at hkb ⊢
  dsimp only at hku
  generalize encK ⟨u, s, kd⟩ = E at *
  have Hkb := Lib.hid hkb
  have hwlt := h.lt
  have hwle := h.le
  have hal : Below w.heap.size w (w.alloc (.cells #[.string u, .int .i64 s, .int .i64 kd] 75)) := (Below.refl _ _).alloc (Nat.le_refl _) _
  have hfa : FarW w (w.alloc (.cells #[.string u, .int .i64 s, .int .i64 kd] 75)) wb := FarW.alloc (by omega) _
  have HK := Lib.hid (blk_of_alloc w (.cells #[.string u, .int .i64 s, .int .i64 kd] 75))
  have Hal := Lib.hid hal
  have Hfa := Lib.hid hfa
  have Hwr := Lib.hid h
  have Hkl := Lib.hid hkl
  have Hkp := Lib.hid hkp
  have hel : E.length ≤ 200 := by dsimp only at hkl; omega
  clear hkb h hal hfa hk hkl hkp
  go_enter Try.func32, Try.ntmps32
  obtain ⟨kb, hkb⟩ : ∃ q, q = w.heap.size := ⟨_, rfl⟩
  go_upto_region 1 with fail
  have Hkb2 := Lib.hid hkb
  rw [← hkb] at HK ⊢
  have hwx : w.alloc (.cells #[.string u, .int .i64 s, .int .i64 kd] 75) = w.alloc (.cells #[.string u, .int .i64 s, .int .i64 kd] 75) := rfl
  clear hkb hwx
  generalize w.alloc (.cells #[.string u, .int .i64 s, .int .i64 kd] 75) = W at *
  have hk0 : W.cell? ⟨kb, 0, none⟩ = some (.string u) := by rw [cell_blkR HK.out]; rfl
  have hk1 : W.cell? ⟨kb, 1, none⟩ = some (.int .i64 s) := by rw [cell_blkR HK.out]; rfl
  have hk2 : W.cell? ⟨kb, 2, none⟩ = some (.int .i64 kd) := by rw [cell_blkR HK.out]; rfl
  go_wp2_with fail
  refine (Hkb.out _).mono ?_
  rintro e w1 ⟨v, rfl, ho, hb1⟩
  have hbel1 : Below w.heap.size w w1 := Hal.out.trans (hb1.mono Hal.out.size)
  have hwr1 : IsWr w1 base wb bs := by
    obtain ⟨v0, hv0, hown0⟩ := Hwr.out.ex
    exact ⟨⟨v0, (hbel1.block wb (by omega)).trans hv0, own_below hown0 hbel1⟩, Hwr.out.lt, Nat.le_trans Hwr.out.le hbel1.size⟩
  obtain ⟨n, hn⟩ : ∃ q, q = E.length := ⟨_, rfl⟩
  have ho2 := ho
  rw [OwnBs, ← hn] at ho2
  obtain ⟨a, c, rfl⟩ := own_slice ho2
  obtain ⟨g, rfl⟩ : ∃ g, a = some ⟨g, 0, none⟩ := by
    rcases ho2.2 with ⟨q, hq⟩ | ⟨g, cap, cur, hv, _⟩
    · have := Hkp.out; omega
    · injection hv with hv; exact ⟨g, hv⟩
  obtain ⟨cur, hblk, hbg, -⟩ := own_blk ho2
  have hWs : w.heap.size ≤ W.heap.size := Hal.out.size
  have hno : NotOwn w1 wb g := by
    intro x b hx e
    obtain ⟨v0, hv0, hown0⟩ := hwr1.ex
    rw [hv0] at hx
    injection hx with hx
    injection hx with hx _ _
    have : v0 = x := by injection hx with hx; injection hx
    subst this
    obtain ⟨v1, hv1, hown1⟩ := Hwr.out.ex
    rw [hbel1.block wb (by omega)] at hv0
    rw [hv1] at hv0
    injection hv0 with hv0
    injection hv0 with hv0 _ _
    have : v1 = v0 := by injection hv0 with hv0; injection hv0
    subst this
    have := (hown1.lt g e).2
    omega
  have htx := wtext_any w1 base wb g bs E n c hwr1 (by have h9 := isSl_own (e := 5) (base := W.heap.size) (v := .slice (some ⟨g, 0, none⟩) n c) (l := E) byteC_len (by rw [← hn]; exact ho2); exact h9) (blk_lt hblk) (by omega) hno (by omega) (by omega)
  have hf1 : FarW w w1 wb := fun s x hx hne hn => ⟨(hbel1.block s (blk_lt hx)).trans hx, fun v b hv => hn v b (by rw [← hbel1.block wb (by omega)]; exact hv)⟩
  have Htx := Lib.hid htx
  have HB1 := Lib.hid (hbel1.mono (Nat.le_trans (Nat.le_of_lt hwlt) hwle))
  have HF1 := Lib.hid hf1
  clear ho ho2 hb1 hbel1 hwr1 hblk hbg hno htx hf1 hk0 hk1 hk2 hn hWs
  go_wp2_with fail
  refine Htx.out.mono ?_
  rintro e w2 ⟨rfl, h2, hb2, hf2⟩
  have H2 := Lib.hid h2
  have HB2 := Lib.hid (HB1.out.trans hb2)
  have HF2 := Lib.hid (HF1.out.trans hf2)
  clear h2 hb2 hf2
  go_wp2_with fail
  go_end0
  exact ⟨rfl, H2.out, HB2.out, HF2.out⟩
end Go.Proofs.Ythjjelomlgmllaa.Tithe
