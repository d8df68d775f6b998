/- The law FlatFolds: walked. -/
import Derived.Test.YtbnodgoccmhjkaaFlatBack
import Derived.Test.YtbnodgoccmhjkaaFlatIs
namespace Go.Proofs.Ytbnodgoccmhjkaa.Tithe
open Go.RowKit Go.Sort Go.Shelf
set_option linter.unusedVariables false
set_option linter.unusedSimpArgs false
set_option maxRecDepth 100000
theorem flatO_min (rows : List Wr) (k : Nat) : flatO rows (min k rows.length) = ((opsOf rows).take k).flatten := by
  unfold flatO
  rcases Nat.le_total k rows.length with h | h
  · rw [Nat.min_eq_left h]
  · rw [Nat.min_eq_right h, List.take_of_length_le (by rw [opsOf_len]; exact Nat.le_refl _), List.take_of_length_le (by rw [opsOf_len]; exact h)]
attribute [local go_sem] Oper.semAt_some
/-- what is(m.Fold(k), x, k, x.Keys(k)) goes through -/
structure FoldsAt (w : World) (mb xb : Nat) (k : Int) (F : FunO) : Prop where
  fold : ∀ A : World, Below w.heap.size w A → Calls Try.prog 12 #[.pointer (some ⟨mb, 0, none⟩), .int .i64 k] A fun e w' => ∃ v' ks, e = .returned v' ∧ KeysIs F ks ∧ ks.length ≤ 100000 ∧ w'.ownsRow A.heap.size 40 3 v' ks.length (flat Bo.cells (outO F ks)) ∧ Below A.heap.size A w'
  keys : ∀ A : World, Below w.heap.size w A → Calls Try.prog 15 #[.pointer (some ⟨xb, 0, none⟩), .int .i64 k] A (KeysOut F A)
  eq : ∀ (A : World) (v0 vk : Value) (base : Nat) (ks : List (List UInt8)), Below w.heap.size w A → IsOs A v0 (outO F ks) → OwnSt A base vk ks → (∀ y ∈ ks, (F (ba y)).isSome = true) → ks.length ≤ 100000 →
    Calls Try.prog 14 #[v0, .pointer (some ⟨xb, 0, none⟩), .int .i64 k, vk] A fun e w' => e = .returned (.bool true) ∧ Below A.heap.size A w'
theorem foldsAt (w : World) (B B2 mb xb : Nat) (most most2 : Int) (k : Int) (rm rx : List Wr) (sm im : Nat) (hM : IsMo w B mb most rm sm im 0) (hX : IsXo w B2 xb most2 rx) (he : ((opsOf rx).take k.toNat).flatten = ((opsOf rm).take k.toNat).flatten) (hl : rm.length ≤ 20) (hl2 : rx.length ≤ 20)
    (hsm : ∀ r ∈ rm, r.2.length ≤ 70 ∧ ∀ x ∈ r.2, x.u.size ≤ 200 ∧ x.v.size ≤ 500) : FoldsAt w mb xb k (foldF ((opsOf rm).take k.toNat).flatten) := by
  obtain ⟨a, c, hB, hO⟩ := hM.ex
  obtain ⟨xa, xc, hXB, hXo⟩ := hX.ex
  have hmem : ∀ o ∈ ((opsOf rm).take k.toNat).flatten, o.u.size ≤ 200 ∧ o.v.size ≤ 500 := by
    intro o ho
    obtain ⟨l, hl, hol⟩ := List.mem_flatten.1 ho
    have h1 := List.mem_of_mem_take hl
    unfold opsOf at h1
    obtain ⟨r, hr, rfl⟩ := List.mem_map.1 h1
    exact (hsm r hr).2 o hol
  have hlen : ((opsOf rm).take k.toNat).flatten.length ≤ 100000 := by
    have := flatten_le (L := (opsOf rm).take k.toNat) (B := 70) (fun l hl => by
      have h1 := List.mem_of_mem_take hl
      unfold opsOf at h1
      obtain ⟨r, hr, rfl⟩ := List.mem_map.1 h1
      exact (hsm r hr).1)
    have h3 : ((opsOf rm).take k.toNat).length ≤ rm.length := by rw [List.length_take, opsOf_len]; omega
    omega
  refine ⟨fun A hA => ?_, fun A hA => ?_, fun A v0 vk base ks hA h0 hk hs hkl => ?_⟩
  · have := fold_any mb k most _ a c rm _ _ 0 A (blk_bels hA hB) (hO.isWs.below hA) (by omega) (by rw [flatO_min]; exact hlen) (by rw [flatO_min]; exact fun x hx => by have := hmem x hx; omega)
    rw [flatO_min] at this
    exact this
  · have := keys_any xb _ most2 rx k A (blk_bels hA hXB) (hXo.isWs.below hA) (by omega) (by rw [he]; exact hlen) (by rw [he]; exact fun x hx => by have := hmem x hx; omega)
    rw [he] at this
    exact this
  · exact is_true xb _ most2 rx k v0 vk base ks A (blk_bels hA hXB) (hXo.isWs.below hA) (by omega) (by rw [he]; exact h0) hk (by rw [he]; exact hs) hkl
set_option maxHeartbeats 6400000 in
theorem flatFolds_walk (most : Int) (v1 : Value) (rows : List Wr) (n : Int) (w : World) (hmo : (Lit.int .i64 most).wf = true) (h : IsWs w v1 rows) (hn : (Lit.int .i64 n).wf = true) :
    Calls Try.prog 4 #[.int .i64 most, v1, .int .i64 n] w fun e w' => e = .returned (.bool true) ∧ Below w.heap.size w w' := by
  clear hmo
  have H := Lib.hid h
  have Hsm := Lib.hid (small_any v1 rows 20 w h)
  clear h
  by_cases hsb : smallB rows 20 = true
  · have Hsb := Lib.hid hsb
    obtain ⟨hf1, hf2⟩ := smallB_facts hsb
    have Hf2 := Lib.hid hf2
    rw [hsb] at Hsm
    have hlen : rows.length ≤ 20 := by omega
    clear hf1 hf2 hsb hn
    go_enter Try.func4, Try.ntmps4
    go_wp2_with (go_at_call 7; refine Hsm.out.mono ?_; rintro e w1 ⟨rfl, hb1⟩; have Hb1 := Lib.hid hb1; clear hb1)
    refine (fill_any most v1 rows _ (H.out.below Hb1.out) hlen Hf2.out).mono ?_
    intro e w2 h2
    obtain ⟨mb, xb, B, rm, rx, rfl, hD, he, -, -, -⟩ := h2.out
    obtain ⟨hrl, -, -, hfs⟩ := fill_small Hsb.out (by omega) he 0
    have Hb2 := Lib.hid (Hb1.out.trans (hD.bel.mono Hb1.out.size))
    have hxl : rx.length = rm.length := by rw [← opsOf_len, hD.eq, opsOf_len]
    obtain ⟨a, c, hB, hO⟩ := hD.mo.ex
    obtain ⟨xa, xc, hX, hXo⟩ := hD.xo.ex
    have Hbk := Lib.hid (back_any mb n most _ a c rm _ _ 0 w2 hB hO.isWs hrl hfs)
    have Hx0 := Lib.hid (fun (A : World) (hA : Below w2.heap.size w2 A) => (cell_of_blk (blk_bels hA hX) 0).trans (show _ = some (.slice xa rx.length xc) from rfl))
    have Hfs := Lib.hid hfs
    have HD := Lib.hid hD
    have He := Lib.hid he
    have Hxl := Lib.hid hxl
    clear hB hO hX hXo hD he hxl hfs h2
    obtain ⟨rl, hrl2⟩ : ∃ q, q = rm.length := ⟨_, rfl⟩
    rw [Hxl.out, ← hrl2] at Hx0
    rw [← hrl2] at Hbk hrl
    have Hrl := Lib.hid hrl2
    clear hrl2
    obtain ⟨N, hN⟩ : ∃ N, N = min n.toNat rl := ⟨_, rfl⟩
    rw [← hN] at Hbk
    have hmx : (if n < 0 then (0 : Int) else n) = max n 0 := by split <;> omega
    have Hmm : Hid (min (max n 0) (rl : Int) = (N : Int)) := Lib.hid (by omega)
    have hNl : N ≤ rl := by omega
    have HN := Lib.hid hN
    clear hN
    go_wp2_with fail
    refine Hbk.out.mono ?_
    rintro e w3 ⟨mb2, B2, sm2, im2, rows2, rfl, hMo2, he2, hb3⟩
    have x0 := Hx0.out w3 hb3
    have hM3 := HD.out.mo.bel hb3
    have hX3 := HD.out.xo.bel hb3
    have hgood : fillT most (opsOf rm) = opsOf rm := by rw [He.out, fillT_twice]
    rw [fillT_take most _ hgood] at he2
    have hl2 : rows2.length = N := by rw [← opsOf_len, he2, List.length_take, opsOf_len, ← Hrl.out]; omega
    have hsm2 : ∀ r ∈ rows2, r.2.length ≤ 70 ∧ ∀ x ∈ r.2, x.u.size ≤ 200 ∧ x.v.size ≤ 500 := fun r hr => by
      have h1 : r.2 ∈ opsOf rows2 := by unfold opsOf; exact List.mem_map.2 ⟨r, hr, rfl⟩
      rw [he2] at h1
      have h2 := List.mem_of_mem_take h1
      unfold opsOf at h2
      obtain ⟨q, hq, e⟩ := List.mem_map.1 h2
      have := Hfs.out q hq
      rw [e] at this
      exact this
    have hxl3 : rx.length ≤ 20 := by rw [Hxl.out, ← Hrl.out]; exact hrl
    have hrl3 : rm.length ≤ 20 := by rw [← Hrl.out]; exact hrl
    have Fa := Lib.hid (foldsAt w3 _ _ mb xb most most n rm rx _ _ hM3 hX3 (by rw [HD.out.eq]) hrl3 hxl3 Hfs.out)
    have Fb := Lib.hid (foldsAt w3 _ _ mb2 xb most most (N : Int) rows2 rx _ _ hMo2 hX3 (by rw [he2, HD.out.eq, Int.toNat_natCast, List.take_take, Nat.min_self]) (by omega) hxl3 hsm2)
    have Fc := Lib.hid (foldsAt w3 _ _ mb xb most most 1073741824 rm rx _ _ hM3 hX3 (by rw [HD.out.eq]) hrl3 hxl3 Hfs.out)
    obtain ⟨F1, hF1⟩ : ∃ F, F = foldF ((opsOf rm).take n.toNat).flatten := ⟨_, rfl⟩
    obtain ⟨F2, hF2⟩ : ∃ F, F = foldF ((opsOf rows2).take (N : Int).toNat).flatten := ⟨_, rfl⟩
    obtain ⟨F3, hF3⟩ : ∃ F, F = foldF ((opsOf rm).take (1073741824 : Int).toNat).flatten := ⟨_, rfl⟩
    rw [← hF1] at Fa
    rw [← hF2] at Fb
    rw [← hF3] at Fc
    have Hwr : Hid (∀ A : World, Below w3.heap.size w3 A → Calls Try.prog 16 #[.pointer (some ⟨mb2, 0, none⟩)] A fun e W' => e = .returned (.int .i64 (N : Nat)) ∧ A = W') := Lib.hid (fun A hA => by
      obtain ⟨a2, c2, hB2, -⟩ := hMo2.ex
      rw [hl2] at hB2
      exact (mwrites_any A mb2 most _ _ _ _ _ _ _ (blk_bels hA hB2)).mono fun e W' h => ⟨h.1, h.2.symm⟩)
    have Hb3 := Lib.hid (Hb2.out.trans (hb3.mono Hb2.out.size))
    have HA0 := Lib.hid (Below.refl w3.heap.size w3)
    clear hF1 hF2 hF3 hM3 hX3 hgood he2 hl2 hsm2 hxl3 hrl3 hb3 hMo2 Hbk Hx0 HD He Hxl Hfs Hrl
    go_upto_region 8 with fail
    rw [Hmm.out]
    clear hmx Hmm
    go_wp2_with fail
    refine (Fa.out.fold _ HA0.out).mono ?_
    rintro e wa1 ⟨va1, ks1, rfl, hks1, hkl1, hown1, hba1⟩
    have Ha1 := Lib.hid (HA0.out.trans (hba1.mono HA0.out.size))
    have Hos1 : Hid (IsOs wa1 va1 (outO _ ks1)) := Lib.hid (isSl_own bo_len (by rw [outO_len]; exact hown1))
    have Hks1 := Lib.hid hks1
    have Hkl1 := Lib.hid hkl1
    clear hown1 hba1 hks1 hkl1
    go_wp2_with fail
    refine (Fa.out.keys _ Ha1.out).mono ?_
    rintro e wb1 ⟨vb1, kt1, rfl, hkt1, -, hst1, hbb1⟩
    obtain rfl : ks1 = kt1 := keys_uniq Hks1.out hkt1
    have Hbb1 := Lib.hid (Ha1.out.trans (hbb1.mono Ha1.out.size))
    have Heq1 := Lib.hid (Fa.out.eq wb1 va1 vb1 _ ks1 Hbb1.out (Hos1.out.below hbb1) hst1 (fun y hy => (hkt1.iff y (hkt1.le y hy)).1 hy) Hkl1.out)
    clear hkt1 hst1 hbb1 Hos1 Hks1 Hkl1
    go_wp2_with fail
    refine Heq1.out.mono ?_
    rintro e wc1 ⟨rfl, hbc1⟩
    have HC1 := Lib.hid (Hbb1.out.trans (hbc1.mono Hbb1.out.size))
    clear hbc1 Heq1 Ha1 Hbb1
    go_wp2_with fail
    refine (Fb.out.fold _ HC1.out).mono ?_
    rintro e wa2 ⟨va2, ks2, rfl, hks2, hkl2, hown2, hba2⟩
    have Ha2 := Lib.hid (HC1.out.trans (hba2.mono HC1.out.size))
    have Hos2 : Hid (IsOs wa2 va2 (outO _ ks2)) := Lib.hid (isSl_own bo_len (by rw [outO_len]; exact hown2))
    have Hks2 := Lib.hid hks2
    have Hkl2 := Lib.hid hkl2
    clear hown2 hba2 hks2 hkl2
    go_wp2_with fail
    refine (Fb.out.keys _ Ha2.out).mono ?_
    rintro e wb2 ⟨vb2, kt2, rfl, hkt2, -, hst2, hbb2⟩
    obtain rfl : ks2 = kt2 := keys_uniq Hks2.out hkt2
    have Hbb2 := Lib.hid (Ha2.out.trans (hbb2.mono Ha2.out.size))
    have Heq2 := Lib.hid (Fb.out.eq wb2 va2 vb2 _ ks2 Hbb2.out (Hos2.out.below hbb2) hst2 (fun y hy => (hkt2.iff y (hkt2.le y hy)).1 hy) Hkl2.out)
    clear hkt2 hst2 hbb2 Hos2 Hks2 Hkl2
    go_wp2_with fail
    refine Heq2.out.mono ?_
    rintro e wc2 ⟨rfl, hbc2⟩
    have HC2 := Lib.hid (Hbb2.out.trans (hbc2.mono Hbb2.out.size))
    clear hbc2 Heq2 Ha2 Hbb2
    go_wp2_with fail
    refine (Hwr.out _ HC2.out).mono ?_
    rintro e w' ⟨rfl, rfl⟩
    go_wp2_with fail
    refine (Fc.out.fold _ HC2.out).mono ?_
    rintro e wa3 ⟨va3, ks3, rfl, hks3, hkl3, hown3, hba3⟩
    have Ha3 := Lib.hid (HC2.out.trans (hba3.mono HC2.out.size))
    have Hos3 : Hid (IsOs wa3 va3 (outO _ ks3)) := Lib.hid (isSl_own bo_len (by rw [outO_len]; exact hown3))
    have Hks3 := Lib.hid hks3
    have Hkl3 := Lib.hid hkl3
    clear hown3 hba3 hks3 hkl3
    go_wp2_with fail
    refine (Fc.out.keys _ Ha3.out).mono ?_
    rintro e wb3 ⟨vb3, kt3, rfl, hkt3, -, hst3, hbb3⟩
    obtain rfl : ks3 = kt3 := keys_uniq Hks3.out hkt3
    have Hbb3 := Lib.hid (Ha3.out.trans (hbb3.mono Ha3.out.size))
    have Heq3 := Lib.hid (Fc.out.eq wb3 va3 vb3 _ ks3 Hbb3.out (Hos3.out.below hbb3) hst3 (fun y hy => (hkt3.iff y (hkt3.le y hy)).1 hy) Hkl3.out)
    clear hkt3 hst3 hbb3 Hos3 Hks3 Hkl3
    go_wp2_with fail
    refine Heq3.out.mono ?_
    rintro e wc3 ⟨rfl, hbc3⟩
    have HC3 := Lib.hid (Hbb3.out.trans (hbc3.mono Hbb3.out.size))
    clear hbc3 Heq3 Ha3 Hbb3
    go_wp2_with fail
    refine (awake21_any _).mono ?_
    rintro e w9 ⟨rfl, hb9⟩
    have Hb9 := Lib.hid (Hb3.out.trans ((HC3.out.trans (hb9.mono HC3.out.size)).mono Hb3.out.size))
    clear hb9
    go_wp2_with fail
    go_ret
    exact ⟨rfl, Hb9.out⟩
  · have hsb2 : smallB rows 20 = false := by simpa using hsb
    rw [hsb2] at Hsm
    clear hsb hsb2
    go_enter Try.func4, Try.ntmps4
    go_wp2_with (first | (go_at_call 7; refine Hsm.out.mono ?_; rintro e w1 ⟨rfl, hb1⟩; have Hb1 := Lib.hid hb1; clear hb1) | (go_at_call 8; refine (awake21_any _).mono ?_; rintro e w9 ⟨rfl, hb9⟩; have Hb9 := Lib.hid (Hb1.out.trans (hb9.mono Hb1.out.size)); clear hb9))
    go_ret
    exact ⟨rfl, Hb9.out⟩
end Go.Proofs.Ytbnodgoccmhjkaa.Tithe
