/- vlog.Parse: walked. -/
import Derived.Test.YtkjfjcigmmooiaaVlog
namespace Go.Proofs.Ytkjfjcigmmooiaa.Tithe
open Go.RowKit Go.Sort
set_option linter.unusedVariables false
set_option maxRecDepth 100000
theorem conv_bytes (w : World) (s : ByteArray) (hs : s.size ≤ maxLen) :
    ∃ c W1, (convert 9 78 (.string s)).run Try.prog w = .ok (.slice (some ⟨w.heap.size, 0, none⟩) s.size c) W1 ∧ Below w.heap.size w W1 ∧ IsBs W1 (.slice (some ⟨w.heap.size, 0, none⟩) s.size c) (bytesOf s) := by
  refine ⟨_, _, run_bytes_of_string (P := Try.prog) w 9 78 5 s Try.underlying9 Try.underlying78 Try.underlying5, ((Below.refl w.heap.size w).drew).alloc (Nat.le_refl _) _, ?_⟩
  refine ⟨_, _, by rw [bytesOf_len], by rw [bytesOf_len]; exact grownCap_ge _ _ _ _, grownCap_le_maxLen _ _ _ _ hs, fun _ => ⟨_, _, rfl, fun i x hi j y hj => ?_⟩⟩
  have hj0 : j = 0 := by have := (List.getElem?_eq_some_iff.1 hj).1; simp [byteC] at this; omega
  subst hj0
  have hy : y = .int .u8 x := by simpa [byteC] using hj.symm
  subst hy
  have hlt := (List.getElem?_eq_some_iff.1 hi).1
  rw [bytesOf_len] at hlt
  have hx : x = s.data[i].toNat := by
    have := (List.getElem?_eq_some_iff.1 hi).2
    rw [← this]
    simp [bytesOf]
  have hb := bytesRow_at s (grownCap w s.size 0 5) i hlt
  rw [Nat.mul_one, Nat.add_zero, Nat.zero_add]
  show World.cell? (World.alloc _ _) _ = _
  have hm := World.cell?_alloc_mark w.drew (bytesRow s (grownCap w s.size 0 5)) 5 ((bytesRow s (grownCap w s.size 0 5)).size, (bytesRow s (grownCap w s.size 0 5)).size + 1) i
  rw [show (w.drew).heap.size = w.heap.size from rfl] at hm
  exact hm.trans (by rw [hb, hx])
set_option maxHeartbeats 800000 in
theorem bclone_any (a : Addr) (n c : Nat) (l : List Nat) (w : World) (h : IsBs w (.slice (some a) n c) l) (hlen : n ≤ 1000000) : Calls Try.prog 75 #[.slice (some a) n c] w fun e w' => ∃ v', e = .returned v' ∧ w'.ownsRow w.heap.size 5 1 v' n (flat byteC l) ∧ Below w.heap.size w w' := by
  obtain ⟨i0, hi0, hz0, hz1, hz2⟩ := info_partsR u8Info
  have hs : ∀ w : World, (binOp .eql 78 (.slice (some a) n c) (.slice none 0 0)).run Try.prog w = .ok (.bool false) w := fun _ => rfl
  obtain ⟨hn, hc, hm, hx⟩ := h.at
  have hnews : ∀ (o : Obj) (j : Nat) (z : Value), (flat byteC l)[j]? = some z → (w.alloc o).cell? (a.add j) = some z := by
    intro o j z hj
    have hpos : 0 < n := by
      rcases Nat.eq_zero_or_pos n with q | q
      · exfalso
        obtain rfl : l = [] := List.eq_nil_of_length_eq_zero (by omega)
        simp [flat] at hj
      · exact q
    obtain ⟨b, off, e, -⟩ := hx hpos
    injection e with e
    subst e
    have := h.news byteC_len j z hj
    rw [World.cell?_alloc_lt w _ _ (block_lt_of_cell this)]; exact this
  have Hnews := Lib.hid hnews
  have hfl : (flat byteC l).length = n * 1 := by rw [flat_length byteC_len, hn]
  have Hfl := Lib.hid hfl
  have hone := byteC_one l
  have Hone := Lib.hid hone
  have hoe : (w.alloc (.cells #[] 5)).ownsRow w.heap.size 5 1 (.slice (some ⟨w.heap.size, 0, none⟩) 0 0) 0 [] := by
    refine ⟨by simp, .inr ⟨w.heap.size, 0, #[], rfl, Nat.le_refl _, ?_, Nat.le_refl _, by decide, by simp, by simp⟩⟩
    show (w.heap.push _)[w.heap.size]? = _
    simp
  have Hoe := Lib.hid hoe
  generalize flat byteC l = F at *
  clear h hx hnews hn hfl hone hoe
  go_enter Try.func75, Try.ntmps75
  go_wp2_with (first | (at_builtin; refine wpList_append_own _ rfl (.tmp 5) (.tmp 6) 78 rfl w.heap.size 5 i0 (.int .u8 0) 1 1 Try.underlying78 hi0 hz0 hz1 hz2 rfl (by decide) (.slice (some ⟨w.heap.size, 0, none⟩) 0 0) 0 [] rfl Hoe.out a n c F rfl ?c1 ?c2 ?c3 ?c4 ?c5 ?c6 ?_))
  case c1 => exact Hfl.out
  case c2 => exact Hnews.out _
  case c3 => exact Hone.out
  case c4 => unfold maxLen; omega
  case c5 => omega
  case c6 => first | omega | (simp; omega) | simp
  intro v' w1 hown' hgrow _
  have hg : Below w.heap.size w w1 := grow_own ((Below.refl _ _).alloc (Nat.le_refl _) _) Hoe.out hgrow (Nat.le_refl _) (by simp)
  have Hown := Lib.hid hown'
  clear hown' hgrow
  go_wp2
  go_ret
  exact ⟨_, rfl, Hown.out, hg⟩
set_option maxHeartbeats 800000 in
theorem newreader_any (a : Addr) (n c : Nat) (l : List Nat) (w : World) (h : IsBs w (.slice (some a) n c) l) (hlen : n ≤ 1000000) : Calls Try.prog 53 #[.slice (some a) n c] w fun e w' => ∃ w0 rb, e = .returned (.pointer (some ⟨rb, 0, none⟩)) ∧ IsRd w0 w' rb l false ∧ w.heap.size ≤ rb ∧ Below w.heap.size w w' := by
  have hn := h.at.1
  have hc := bclone_any a n c l w h hlen
  have Hc := Lib.hid hc
  have Hn := Lib.hid hn
  clear hc h hn
  go_enter Try.func53, Try.ntmps53
  go_wp2_with fail
  refine Hc.out.mono ?_
  rintro e w2 ⟨v', rfl, ho, hb⟩
  have hbs : IsBs w2 v' l := isSl_own byteC_len (by rw [← Hn.out]; exact ho)
  obtain ⟨va, vc, rfl⟩ := own_slice ho
  have Hbs := Lib.hid hbs
  have Hb := Lib.hid hb
  clear ho hb hbs
  go_wp2
  go_ret
  refine ⟨w2, _, rfl, ⟨⟨_, by show (w2.heap.push _)[w2.heap.size]? = _; simp, Hbs.out⟩, (Below.refl _ _).alloc (Nat.le_refl _) _, Nat.le_refl _⟩, Hb.out.size, Hb.out.alloc Hb.out.size _⟩
theorem rdN_sub : ∀ (f i acc : Nat) (bs : List Nat), ∀ x ∈ (rdN f i acc bs).2.1, x ∈ bs
  | 0, _, _, bs, x, h => h
  | _ + 1, _, _, [], x, h => h
  | f + 1, i, acc, y :: bs, x, h => by
    unfold rdN at h
    split at h
    · split at h <;> exact List.mem_cons_of_mem _ h
    · exact List.mem_cons_of_mem _ (rdN_sub f (i + 1) _ bs x h)
theorem numB_sub (bad : Bool) (bs : List Nat) : ∀ x ∈ (numB bad bs).2.1, x ∈ bs := by
  intro x h
  unfold numB at h
  split at h
  · exact h
  · exact rdN_sub 9 0 0 bs x h
theorem IsRd.below2 {w0 w w' : World} {rb : Nat} {bs : List Nat} {bad : Bool} (h : IsRd w0 w rb bs bad) (hb : Below w.heap.size w w') : IsRd w0 w' rb bs bad := by
  obtain ⟨⟨v, hblk, hbs⟩, hbel, hold⟩ := h
  exact ⟨⟨v, (hb.block rb (Array.getElem?_eq_some_iff.1 hblk).1).trans hblk, hbs⟩, hbel.trans (hb.mono hbel.size), hold⟩
theorem IsRd.other {w0 w w' : World} {rb pb : Nat} {bs : List Nat} {bad : Bool} (h : IsRd w0 w rb bs bad) (hg : w.grownBy w' (some pb)) (hne : rb ≠ pb) (hp : w0.heap.size ≤ pb) : IsRd w0 w' rb bs bad := by
  obtain ⟨⟨v, hblk, hbs⟩, hbel, hold⟩ := h
  exact ⟨⟨v, (hg.block rb (Array.getElem?_eq_some_iff.1 hblk).1 (fun e => hne (Option.some.inj e))).trans hblk, hbs⟩, hbel.trans (grown_belowR hg hp hbel.size), hold⟩
/-- what Parse finds -/
def parR (bs : List Nat) : (Nat × Nat × Nat) × Bool :=
  let r1 := numB false bs
  let r2 := numB r1.2.2 r1.2.1
  let r3 := numB r2.2.2 r2.2.1
  ((r1.1, r2.1, r3.1), !r3.2.2 && r3.2.1.isEmpty && okP r1.1 r2.1 r3.1)
def parE (r : (Nat × Nat × Nat) × Bool) : Ending := if r.2 then .returned (.tuple #[.agg #[.int .i64 r.1.1, .int .i64 r.1.2.1, .int .i64 r.1.2.2], .int .i64 0]) else .returned (.tuple #[.agg #[.int .i64 0, .int .i64 0, .int .i64 0], .int .i64 140])
theorem parE_no {r : (Nat × Nat × Nat) × Bool} (h : r.2 = false) : parE r = .returned (.tuple #[.agg #[.int .i64 0, .int .i64 0, .int .i64 0], .int .i64 140]) := by
  unfold parE; rw [h]; rfl
theorem parE_yes {r : (Nat × Nat × Nat) × Bool} (h : r.2 = true) : parE r = .returned (.tuple #[.agg #[.int .i64 r.1.1, .int .i64 r.1.2.1, .int .i64 r.1.2.2], .int .i64 0]) := by
  unfold parE; rw [h]; rfl
theorem set3 {V : World} {b : Nat} {t : TypeId} {x y z : Value} (h : V.heap[b]? = some (.cells #[x, y, z] t (0, 0))) (x' y' z' : Value) : (((V.setCell ⟨b, 0, none⟩ x').setCell ⟨b, 1, none⟩ y').setCell ⟨b, 2, none⟩ z').heap[b]? = some (.cells #[x', y', z'] t (0, 0)) := by
  rw [blk_setCellR (blk_setCellR (blk_setCellR h))]; rfl
theorem set3_below {w V : World} (hb : Below w.heap.size w V) (x' y' z' : Value) : Below w.heap.size w (((V.setCell ⟨w.heap.size, 0, none⟩ x').setCell ⟨w.heap.size, 1, none⟩ y').setCell ⟨w.heap.size, 2, none⟩ z') := by
  have h1 := hb.trans (grown_belowR (grown_setCellR V w.heap.size 0 x') (Nat.le_refl _) hb.size)
  have h2 := h1.trans (grown_belowR (grown_setCellR _ w.heap.size 1 y') (Nat.le_refl _) h1.size)
  exact h2.trans (grown_belowR (grown_setCellR _ w.heap.size 2 z') (Nat.le_refl _) h2.size)
set_option maxHeartbeats 1600000 in
theorem parse_any (s : ByteArray) (w : World) (hs : s.size ≤ 1000000) :
    Calls Try.prog 36 #[.string s] w fun e w' => Below w.heap.size w w' ∧ e = parE (parR (bytesOf s)) := by
  obtain ⟨c, W1, hcv, hb1, hbs⟩ := conv_bytes (w.alloc (.cells #[.int .i64 0, .int .i64 0, .int .i64 0] 39)) s (by unfold maxLen; omega)
  rw [World.size_alloc] at hcv hbs
  have hnr := newreader_any _ _ _ _ W1 hbs hs
  have hlt := bytesOf_lt s
  generalize bytesOf s = bs at *
  have Hnr := Lib.hid hnr
  have Hlt := Lib.hid hlt
  have hb0 : Below w.heap.size w (w.alloc (.cells #[.int .i64 0, .int .i64 0, .int .i64 0] 39)) := (Below.refl _ _).alloc (Nat.le_refl _) _
  have Hb1 := Lib.hid hb1
  clear hnr hlt hbs hb1
  go_enter Try.func36, Try.ntmps36
  go_wp2_with fail
  refine Hnr.out.mono ?_
  rintro e w2 ⟨w0, rb, rfl, hrd, hrb, hb2⟩
  go_wp2_with fail
  have hrbl : rb < w2.heap.size := by
    obtain ⟨⟨v, hblk, -⟩, -, -⟩ := hrd
    exact (Array.getElem?_eq_some_iff.1 hblk).1
  have hw0 : w0.heap.size ≤ rb := hrd.old
  have hrb' : w.heap.size + 1 ≤ rb := Nat.le_trans (by have := Hb1.out.size; simp at this; omega) hrb
  have hbw2 : Below w.heap.size w w2 := (hb0.trans (Hb1.out.mono (by simp))).trans (hb2.mono (by have := Hb1.out.size; simp at this; omega))
  have hres2 : w2.heap[w.heap.size]? = some (.cells #[.int .i64 0, .int .i64 0, .int .i64 0] 39 (0, 0)) := by
    rw [hb2.block _ (by have := Hb1.out.size; simp at this; omega), Hb1.out.block _ (by simp)]
    show (w.heap.push _)[w.heap.size]? = _
    simp
  have rd0 : IsRd w0 (w2.alloc (.cells #[.int .i64 0, .int .i64 0, .int .i64 0] 39)) rb bs false := hrd.below2 ((Below.refl _ _).alloc (Nat.le_refl _) _)
  have bp0 : (w2.alloc (.cells #[.int .i64 0, .int .i64 0, .int .i64 0] 39)).heap[w2.heap.size]? = some (.cells #[.int .i64 0, .int .i64 0, .int .i64 0] 39 (0, 0)) := by
    show (w2.heap.push _)[w2.heap.size]? = _
    simp
  have br0 : (w2.alloc (.cells #[.int .i64 0, .int .i64 0, .int .i64 0] 39)).heap[w.heap.size]? = some (.cells #[.int .i64 0, .int .i64 0, .int .i64 0] 39 (0, 0)) := (Below.heap_alloc _ _ _ (by omega)).trans hres2
  have be0 : Below w.heap.size w (w2.alloc (.cells #[.int .i64 0, .int .i64 0, .int .i64 0] 39)) := hbw2.alloc hbw2.size _
  obtain ⟨pb, hpb⟩ : ∃ pb, pb = w2.heap.size := ⟨_, rfl⟩
  rw [← hpb] at bp0 hrbl ⊢
  clear hrd hb0 hbw2 hres2 hb2
  generalize w2.alloc (.cells #[.int .i64 0, .int .i64 0, .int .i64 0] 39) = V0 at *
  clear hpb
  have hn1 := num_any w0 V0 rb bs false rd0 Hlt.out
  have hs1 := numB_sub false bs
  obtain ⟨⟨n1, b1, e1⟩, hr1⟩ : ∃ r, r = numB false bs := ⟨_, rfl⟩
  rw [← hr1] at hn1 hs1
  have Hr1 := Lib.hid hr1
  have Hl1 : Hid (∀ x ∈ b1, x < 256) := fun x hx => Hlt.out x (hs1 x hx)
  have Hn1 := Lib.hid hn1
  have Bp0 := Lib.hid bp0
  have Br0 := Lib.hid br0
  have Be0 := Lib.hid be0
  clear hr1 hn1 hs1 rd0 bp0 br0 be0
  refine Hn1.out.mono ?_
  rintro e u1 ⟨rfl, rdu1, hgu1⟩
  have bpu1 : u1.heap[pb]? = some (.cells #[.int .i64 0, .int .i64 0, .int .i64 0] 39 (0, 0)) := (hgu1.block pb (Array.getElem?_eq_some_iff.1 Bp0.out).1 (fun e => by cases e; omega)).trans Bp0.out
  have bru1 : u1.heap[w.heap.size]? = some (.cells #[.int .i64 0, .int .i64 0, .int .i64 0] 39 (0, 0)) := (hgu1.block _ (Array.getElem?_eq_some_iff.1 Br0.out).1 (fun e => by cases e; omega)).trans Br0.out
  have beu1 : Below w.heap.size w u1 := Be0.out.trans (grown_belowR hgu1 (by omega) Be0.out.size)
  have fz1 : u1.frozen? ⟨pb, 0, none⟩ = false := frozen_blkR bpu1 0
  have cz1 : u1.cell? ⟨pb, 0, none⟩ = some (.int .i64 0) := by rw [cell_blkR bpu1]; rfl
  have rd1 : IsRd w0 (u1.setCell ⟨pb, 0, none⟩ (.int .i64 (n1 : Int))) rb b1 e1 := rdu1.other (grown_setCellR _ _ _ _) (by omega) (by omega)
  have Bp1 : Hid ((u1.setCell ⟨pb, 0, none⟩ (.int .i64 (n1 : Int))).heap[pb]? = some (.cells #[.int .i64 (n1 : Int), .int .i64 0, .int .i64 0] 39 (0, 0))) := by rw [blk_setCellR bpu1]; exact Lib.hid rfl
  have Br1 : Hid ((u1.setCell ⟨pb, 0, none⟩ (.int .i64 (n1 : Int))).heap[w.heap.size]? = some (.cells #[.int .i64 0, .int .i64 0, .int .i64 0] 39 (0, 0))) := ((grown_setCellR u1 pb 0 _).block _ (Array.getElem?_eq_some_iff.1 bru1).1 (fun e => by cases e; omega)).trans bru1
  have Be1 : Hid (Below w.heap.size w (u1.setCell ⟨pb, 0, none⟩ (.int .i64 (n1 : Int)))) := beu1.trans (grown_belowR (grown_setCellR _ _ _ _) (by omega) beu1.size)
  have hn2 := num_any w0 _ rb b1 e1 rd1 Hl1.out
  have hs2 := numB_sub e1 b1
  obtain ⟨⟨n2, b2, e2⟩, hr2⟩ : ∃ r, r = numB e1 b1 := ⟨_, rfl⟩
  rw [← hr2] at hn2 hs2
  have Hr2 := Lib.hid hr2
  have Hl2 : Hid (∀ x ∈ b2, x < 256) := fun x hx => Hl1.out x (hs2 x hx)
  have Hn2 := Lib.hid hn2
  clear hr2 hn2 hs2 rd1 rdu1 hgu1 bpu1 bru1 beu1
  go_wp2_with fail
  refine Hn2.out.mono ?_
  rintro e u2 ⟨rfl, rdu2, hgu2⟩
  have bpu2 : u2.heap[pb]? = some (.cells #[.int .i64 (n1 : Int), .int .i64 0, .int .i64 0] 39 (0, 0)) := (hgu2.block pb (Array.getElem?_eq_some_iff.1 Bp1.out).1 (fun e => by cases e; omega)).trans Bp1.out
  have bru2 : u2.heap[w.heap.size]? = some (.cells #[.int .i64 0, .int .i64 0, .int .i64 0] 39 (0, 0)) := (hgu2.block _ (Array.getElem?_eq_some_iff.1 Br1.out).1 (fun e => by cases e; omega)).trans Br1.out
  have beu2 : Below w.heap.size w u2 := Be1.out.trans (grown_belowR hgu2 (by omega) Be1.out.size)
  have fz2 : u2.frozen? ⟨pb, 1, none⟩ = false := frozen_blkR bpu2 1
  have cz2 : u2.cell? ⟨pb, 1, none⟩ = some (.int .i64 0) := by rw [cell_blkR bpu2]; rfl
  have rd2 : IsRd w0 (u2.setCell ⟨pb, 1, none⟩ (.int .i64 (n2 : Int))) rb b2 e2 := rdu2.other (grown_setCellR _ _ _ _) (by omega) (by omega)
  have Bp2 : Hid ((u2.setCell ⟨pb, 1, none⟩ (.int .i64 (n2 : Int))).heap[pb]? = some (.cells #[.int .i64 (n1 : Int), .int .i64 (n2 : Int), .int .i64 0] 39 (0, 0))) := by rw [blk_setCellR bpu2]; exact Lib.hid rfl
  have Br2 : Hid ((u2.setCell ⟨pb, 1, none⟩ (.int .i64 (n2 : Int))).heap[w.heap.size]? = some (.cells #[.int .i64 0, .int .i64 0, .int .i64 0] 39 (0, 0))) := ((grown_setCellR u2 pb 1 _).block _ (Array.getElem?_eq_some_iff.1 bru2).1 (fun e => by cases e; omega)).trans bru2
  have Be2 : Hid (Below w.heap.size w (u2.setCell ⟨pb, 1, none⟩ (.int .i64 (n2 : Int)))) := beu2.trans (grown_belowR (grown_setCellR _ _ _ _) (by omega) beu2.size)
  have hn3 := num_any w0 _ rb b2 e2 rd2 Hl2.out
  have hs3 := numB_sub e2 b2
  obtain ⟨⟨n3, b3, e3⟩, hr3⟩ : ∃ r, r = numB e2 b2 := ⟨_, rfl⟩
  rw [← hr3] at hn3 hs3
  have Hr3 := Lib.hid hr3
  have Hl3 : Hid (∀ x ∈ b3, x < 256) := fun x hx => Hl2.out x (hs3 x hx)
  have Hn3 := Lib.hid hn3
  clear hr3 hn3 hs3 rd2 rdu2 hgu2 bpu2 bru2 beu2
  go_wp2_with fail
  refine Hn3.out.mono ?_
  rintro e u3 ⟨rfl, rdu3, hgu3⟩
  have bpu3 : u3.heap[pb]? = some (.cells #[.int .i64 (n1 : Int), .int .i64 (n2 : Int), .int .i64 0] 39 (0, 0)) := (hgu3.block pb (Array.getElem?_eq_some_iff.1 Bp2.out).1 (fun e => by cases e; omega)).trans Bp2.out
  have bru3 : u3.heap[w.heap.size]? = some (.cells #[.int .i64 0, .int .i64 0, .int .i64 0] 39 (0, 0)) := (hgu3.block _ (Array.getElem?_eq_some_iff.1 Br2.out).1 (fun e => by cases e; omega)).trans Br2.out
  have beu3 : Below w.heap.size w u3 := Be2.out.trans (grown_belowR hgu3 (by omega) Be2.out.size)
  have fz3 : u3.frozen? ⟨pb, 2, none⟩ = false := frozen_blkR bpu3 2
  have cz3 : u3.cell? ⟨pb, 2, none⟩ = some (.int .i64 0) := by rw [cell_blkR bpu3]; rfl
  have rd3 : IsRd w0 (u3.setCell ⟨pb, 2, none⟩ (.int .i64 (n3 : Int))) rb b3 e3 := rdu3.other (grown_setCellR _ _ _ _) (by omega) (by omega)
  have Bp3 : Hid ((u3.setCell ⟨pb, 2, none⟩ (.int .i64 (n3 : Int))).heap[pb]? = some (.cells #[.int .i64 (n1 : Int), .int .i64 (n2 : Int), .int .i64 (n3 : Int)] 39 (0, 0))) := by rw [blk_setCellR bpu3]; exact Lib.hid rfl
  have Br3 : Hid ((u3.setCell ⟨pb, 2, none⟩ (.int .i64 (n3 : Int))).heap[w.heap.size]? = some (.cells #[.int .i64 0, .int .i64 0, .int .i64 0] 39 (0, 0))) := ((grown_setCellR u3 pb 2 _).block _ (Array.getElem?_eq_some_iff.1 bru3).1 (fun e => by cases e; omega)).trans bru3
  have Be3 : Hid (Below w.heap.size w (u3.setCell ⟨pb, 2, none⟩ (.int .i64 (n3 : Int)))) := beu3.trans (grown_belowR (grown_setCellR _ _ _ _) (by omega) beu3.size)
  have hdn := done_any w0 _ rb b3 e3 rd3
  have Hdn := Lib.hid hdn
  clear hdn rd3 rdu3 hgu3 bpu3 bru3 beu3
  go_wp2_with fail
  have hpar : parR bs = ((n1, n2, n3), !e3 && b3.isEmpty && okP n1 n2 n3) := by
    unfold parR
    simp only [← Hr1.out, ← Hr2.out, ← Hr3.out]
  have Hpar := Lib.hid hpar
  generalize u3.setCell ⟨pb, 2, none⟩ (.int .i64 (n3 : Int)) = U at *
  have p0 : U.cell? ⟨pb, 0, none⟩ = some (.int .i64 (n1 : Int)) := by rw [cell_blkR Bp3.out]; rfl
  have p1 : U.cell? ⟨pb, 1, none⟩ = some (.int .i64 (n2 : Int)) := by rw [cell_blkR Bp3.out]; rfl
  have p2 : U.cell? ⟨pb, 2, none⟩ = some (.int .i64 (n3 : Int)) := by rw [cell_blkR Bp3.out]; rfl
  clear hpar
  cases hd : (!e3 && b3.isEmpty) with
  | false =>
    have hdn := Hdn.out
    have hz : chkE (!e3 && b3.isEmpty) 20 = 20 := by rw [hd]; rfl
    rw [hz] at hdn
    have Hdn' := Lib.hid hdn
    have hfin : (parR bs).2 = false := by rw [Hpar.out]; show (!e3 && b3.isEmpty && okP n1 n2 n3) = false; rw [hd]; rfl
    have Hfin := Lib.hid hfin
    clear hdn hz hd hfin Hdn
    refine Hdn'.out.mono ?_
    rintro e w' ⟨rfl, rfl⟩
    have bq := Br3.out
    have x0 := frozen_blkR bq 0
    have x1 := frozen_blkR bq 1
    have x2 := frozen_blkR bq 2
    have y0 : w'.cell? ⟨w.heap.size, 0, none⟩ = some (.int .i64 0) := by rw [cell_blkR bq]; rfl
    have y1 : w'.cell? ⟨w.heap.size, 1, none⟩ = some (.int .i64 0) := by rw [cell_blkR bq]; rfl
    have y2 : w'.cell? ⟨w.heap.size, 2, none⟩ = some (.int .i64 0) := by rw [cell_blkR bq]; rfl
    have Bq := Lib.hid bq
    clear bq
    go_wp2
    refine bodyPost_ret (v := .tuple #[.agg #[.int .i64 0, .int .i64 0, .int .i64 0], .int .i64 140]) ?_ rfl ⟨set3_below Be3.out _ _ _, by rw [parE_no Hfin.out]⟩
    have hres := set3 Bq.out (.int .i64 0) (.int .i64 0) (.int .i64 0)
    have z0 := cell_blkR hres 0
    have z1 := cell_blkR hres 1
    have z2 := cell_blkR hres 2
    simp only [List.getElem?_toArray, List.getElem?_cons_zero, List.getElem?_cons_succ] at z0 z1 z2
    generalize ((w'.setCell ⟨w.heap.size, 0, none⟩ (.int .i64 0)).setCell ⟨w.heap.size, 1, none⟩ (.int .i64 0)).setCell ⟨w.heap.size, 2, none⟩ (.int .i64 0) = F at *
    simp [results, Try.results36, go_sem, z0, z1, z2]
  | true =>
    have hdn := Hdn.out
    have hz : chkE (!e3 && b3.isEmpty) 20 = 0 := by rw [hd]; rfl
    rw [hz] at hdn
    have Hdn' := Lib.hid hdn
    have Hd := Lib.hid hd
    clear hdn hz hd Hdn
    refine Hdn'.out.mono ?_
    rintro e w' ⟨rfl, rfl⟩
    cases hok : okP n1 n2 n3 with
    | true =>
      have hc0 : chkP n1 n2 n3 = 0 := by unfold chkP; rw [if_pos hok]
      have hfin : (parR bs).2 = true := by rw [Hpar.out]; show (!e3 && b3.isEmpty && okP n1 n2 n3) = true; rw [Hd.out, hok]; rfl
      have hck := pcheck_any n1 n2 n3 w'
      rw [hc0] at hck
      have Hck := Lib.hid hck
      have Hfin := Lib.hid hfin
      clear hck hc0 hfin hok
      go_wp2_with fail
      refine Hck.out.mono ?_
      rintro e u4 ⟨rfl, hb4⟩
      have Be4 := Lib.hid (Be3.out.trans (hb4.mono Be3.out.size))
      have Bp4 : Hid (u4.heap[pb]? = some (.cells #[.int .i64 (n1 : Int), .int .i64 (n2 : Int), .int .i64 (n3 : Int)] 39 (0, 0))) := (hb4.block _ (Array.getElem?_eq_some_iff.1 Bp3.out).1).trans Bp3.out
      have bq := (hb4.block _ (Array.getElem?_eq_some_iff.1 Br3.out).1).trans Br3.out
      have p0 : u4.cell? ⟨pb, 0, none⟩ = some (.int .i64 (n1 : Int)) := by rw [cell_blkR Bp4.out]; rfl
      have p1 : u4.cell? ⟨pb, 1, none⟩ = some (.int .i64 (n2 : Int)) := by rw [cell_blkR Bp4.out]; rfl
      have p2 : u4.cell? ⟨pb, 2, none⟩ = some (.int .i64 (n3 : Int)) := by rw [cell_blkR Bp4.out]; rfl
      have x0 := frozen_blkR bq 0
      have x1 := frozen_blkR bq 1
      have x2 := frozen_blkR bq 2
      have y0 : u4.cell? ⟨w.heap.size, 0, none⟩ = some (.int .i64 0) := by rw [cell_blkR bq]; rfl
      have y1 : u4.cell? ⟨w.heap.size, 1, none⟩ = some (.int .i64 0) := by rw [cell_blkR bq]; rfl
      have y2 : u4.cell? ⟨w.heap.size, 2, none⟩ = some (.int .i64 0) := by rw [cell_blkR bq]; rfl
      have Bq := Lib.hid bq
      clear bq hb4
      go_wp2
      refine bodyPost_ret (v := .tuple #[.agg #[.int .i64 (n1 : Int), .int .i64 (n2 : Int), .int .i64 (n3 : Int)], .int .i64 0]) ?_ rfl ⟨set3_below Be4.out _ _ _, by rw [parE_yes Hfin.out, Hpar.out]⟩
      have hres := set3 Bq.out (.int .i64 (n1 : Int)) (.int .i64 (n2 : Int)) (.int .i64 (n3 : Int))
      have z0 := cell_blkR hres 0
      have z1 := cell_blkR hres 1
      have z2 := cell_blkR hres 2
      simp only [List.getElem?_toArray, List.getElem?_cons_zero, List.getElem?_cons_succ] at z0 z1 z2
      generalize ((u4.setCell ⟨w.heap.size, 0, none⟩ (.int .i64 (n1 : Int))).setCell ⟨w.heap.size, 1, none⟩ (.int .i64 (n2 : Int))).setCell ⟨w.heap.size, 2, none⟩ (.int .i64 (n3 : Int)) = F at *
      simp [results, Try.results36, go_sem, z0, z1, z2]
    | false =>
      have hc0 : chkP n1 n2 n3 = 140 := by unfold chkP; rw [hok]; rfl
      have hfin : (parR bs).2 = false := by rw [Hpar.out]; show (!e3 && b3.isEmpty && okP n1 n2 n3) = false; rw [Hd.out, hok]; rfl
      have hck := pcheck_any n1 n2 n3 w'
      rw [hc0] at hck
      have Hck := Lib.hid hck
      have Hfin := Lib.hid hfin
      clear hck hc0 hfin hok
      go_wp2_with fail
      refine Hck.out.mono ?_
      rintro e u4 ⟨rfl, hb4⟩
      have Be4 := Lib.hid (Be3.out.trans (hb4.mono Be3.out.size))
      have Bp4 : Hid (u4.heap[pb]? = some (.cells #[.int .i64 (n1 : Int), .int .i64 (n2 : Int), .int .i64 (n3 : Int)] 39 (0, 0))) := (hb4.block _ (Array.getElem?_eq_some_iff.1 Bp3.out).1).trans Bp3.out
      have bq := (hb4.block _ (Array.getElem?_eq_some_iff.1 Br3.out).1).trans Br3.out
      have p0 : u4.cell? ⟨pb, 0, none⟩ = some (.int .i64 (n1 : Int)) := by rw [cell_blkR Bp4.out]; rfl
      have p1 : u4.cell? ⟨pb, 1, none⟩ = some (.int .i64 (n2 : Int)) := by rw [cell_blkR Bp4.out]; rfl
      have p2 : u4.cell? ⟨pb, 2, none⟩ = some (.int .i64 (n3 : Int)) := by rw [cell_blkR Bp4.out]; rfl
      have x0 := frozen_blkR bq 0
      have x1 := frozen_blkR bq 1
      have x2 := frozen_blkR bq 2
      have y0 : u4.cell? ⟨w.heap.size, 0, none⟩ = some (.int .i64 0) := by rw [cell_blkR bq]; rfl
      have y1 : u4.cell? ⟨w.heap.size, 1, none⟩ = some (.int .i64 0) := by rw [cell_blkR bq]; rfl
      have y2 : u4.cell? ⟨w.heap.size, 2, none⟩ = some (.int .i64 0) := by rw [cell_blkR bq]; rfl
      have Bq := Lib.hid bq
      clear bq hb4
      go_wp2
      refine bodyPost_ret (v := .tuple #[.agg #[.int .i64 0, .int .i64 0, .int .i64 0], .int .i64 140]) ?_ rfl ⟨set3_below Be4.out _ _ _, by rw [parE_no Hfin.out]⟩
      have hres := set3 Bq.out (.int .i64 0) (.int .i64 0) (.int .i64 0)
      have z0 := cell_blkR hres 0
      have z1 := cell_blkR hres 1
      have z2 := cell_blkR hres 2
      simp only [List.getElem?_toArray, List.getElem?_cons_zero, List.getElem?_cons_succ] at z0 z1 z2
      generalize ((u4.setCell ⟨w.heap.size, 0, none⟩ (.int .i64 0)).setCell ⟨w.heap.size, 1, none⟩ (.int .i64 0)).setCell ⟨w.heap.size, 2, none⟩ (.int .i64 0) = F at *
      simp [results, Try.results36, go_sem, z0, z1, z2]
end Go.Proofs.Ytkjfjcigmmooiaa.Tithe
