/- The law FlatGets: walked. -/
import Derived.Test.YtbnodgoccmhjkaaFlatAwake
namespace Go.Proofs.Ytbnodgoccmhjkaa.Tithe
open Go.RowKit Go.Sort Go.Shelf
set_option linter.unusedVariables false
set_option linter.unusedSimpArgs false
set_option maxRecDepth 100000
theorem fillL_sub (most : Int) (acc : List (List Bo)) (l : List Bo) : ∀ x ∈ fillL most acc l, x ∈ acc ∨ x = l := by
  intro x hx
  unfold fillL at hx
  split at hx
  · rcases List.mem_append.1 hx with h | h
    · exact .inl h
    · exact .inr (List.mem_singleton.1 h)
  · exact .inl hx
theorem fillT_sub' (most : Int) : ∀ (L acc : List (List Bo)), (∀ x ∈ L.foldl (fillL most) acc, x ∈ acc ∨ x ∈ L) ∧ (L.foldl (fillL most) acc).length ≤ acc.length + L.length
  | [], acc => ⟨fun x hx => .inl hx, Nat.le_refl _⟩
  | l :: L, acc => by
    obtain ⟨h1, h2⟩ := fillT_sub' most L (fillL most acc l)
    constructor
    · intro x hx
      rcases h1 x hx with h | h
      · rcases fillL_sub most acc l x h with h | h
        · exact .inl h
        · exact .inr (by rw [h]; exact List.mem_cons_self)
      · exact .inr (List.mem_cons_of_mem _ h)
    · have : (fillL most acc l).length ≤ acc.length + 1 := by
        unfold fillL
        split
        · rw [List.length_append]; exact Nat.le_refl _
        · omega
      show (L.foldl (fillL most) (fillL most acc l)).length ≤ _
      simp only [List.length_cons]
      omega
theorem fillT_sub {most : Int} {L : List (List Bo)} {x : List Bo} (h : x ∈ fillT most L) : x ∈ L := by
  rcases (fillT_sub' most L []).1 x h with h | h
  · cases h
  · exact h
theorem fillT_len (most : Int) (L : List (List Bo)) : (fillT most L).length ≤ L.length := by
  have := (fillT_sub' most L []).2
  rw [List.length_nil, Nat.zero_add] at this
  exact this
theorem flatten_le {L : List (List Bo)} {B : Nat} (h : ∀ l ∈ L, l.length ≤ B) : L.flatten.length ≤ B * L.length := by
  induction L with
  | nil => simp
  | cons l L ih =>
    have h1 := ih (fun x hx => h x (List.mem_cons_of_mem _ hx))
    have h2 := h l List.mem_cons_self
    rw [List.flatten_cons, List.length_append, List.length_cons, Nat.mul_succ]
    omega
/-- what a model that fill made is good for -/
theorem fill_small {most mm : Int} {rows rm : List Wr} (hs : smallB rows most = true) (hm : most ≤ 20) (he : opsOf rm = fillT mm (opsOf rows)) (n : Nat) :
    rm.length ≤ 20 ∧ (flatO rm n).length ≤ 100000 ∧ (∀ x ∈ flatO rm n, x.u.size ≤ 200 ∧ x.v.size ≤ 500) ∧ (∀ r ∈ rm, r.2.length ≤ 70 ∧ ∀ x ∈ r.2, x.u.size ≤ 200 ∧ x.v.size ≤ 500) := by
  obtain ⟨h1, h2⟩ := smallB_facts hs
  have hop : ∀ l ∈ opsOf rm, l.length ≤ 70 ∧ ∀ x ∈ l, x.u.size ≤ 200 ∧ x.v.size ≤ 500 := by
    intro l hl
    rw [he] at hl
    have := fillT_sub hl
    unfold opsOf at this
    obtain ⟨r, hr, rfl⟩ := List.mem_map.1 this
    exact h2 r hr
  have hlen : rm.length ≤ 20 := by
    have e1 := congrArg List.length he
    rw [opsOf_len] at e1
    have e2 := fillT_len mm (opsOf rows)
    rw [opsOf_len] at e2
    omega
  refine ⟨hlen, ?_, ?_, fun r hr => hop r.2 (by unfold opsOf; exact List.mem_map.2 ⟨r, hr, rfl⟩)⟩
  · have := flatten_le (L := (opsOf rm).take n) (B := 70) (fun l hl => (hop l (List.mem_of_mem_take hl)).1)
    have h3 : ((opsOf rm).take n).length ≤ rm.length := by rw [List.length_take, opsOf_len]; omega
    unfold flatO
    omega
  · intro x hx
    unfold flatO at hx
    obtain ⟨l, hl, hxl⟩ := List.mem_flatten.1 hx
    exact (hop l (List.mem_of_mem_take hl)).2 x hxl
/-- how often a key is there -/
def cntK (ks : List (List UInt8)) (key : ByteArray) : Nat := ks.count key.data.toList
theorem cntK_snoc (ks : List (List UInt8)) (key : ByteArray) (y : List UInt8) : cntK (ks ++ [y]) key = cntK ks key + (if ba y = key then 1 else 0) := by
  unfold cntK
  rw [List.count_append, List.count_singleton]
  by_cases h : ba y = key
  · rw [if_pos h, ba_eq h]; simp
  · rw [if_neg h, if_neg]
    simp only [beq_iff_eq]
    intro e
    exact h (by rw [e]; exact ba_list key)
theorem cntK_le (ks : List (List UInt8)) (key : ByteArray) : cntK ks key ≤ ks.length := List.count_le_length
theorem cntK_is {F : FunO} {ks : List (List UInt8)} (h : KeysIs F ks) {key : ByteArray} (hk : key.size ≤ maxLen) : cntK ks key = if (F key).isSome = true then 1 else 0 := by
  have hx : key.data.toList.length ≤ maxLen := by simpa using hk
  have hm := h.iff key.data.toList hx
  rw [ba_list] at hm
  unfold cntK
  by_cases q : (F key).isSome = true
  · rw [if_pos q, h.nd.count, if_pos (hm.2 q)]
  · rw [if_neg q, h.nd.count, if_neg (fun z => q (hm.1 z))]
attribute [local go_sem] Oper.semAt_some
set_option maxHeartbeats 6400000 in
theorem flatGets_walk (most : Int) (v1 : Value) (rows : List Wr) (key : ByteArray) (w : World) (hmo : (Lit.int .i64 most).wf = true) (h : IsWs w v1 rows) (hks : key.size ≤ maxLen) :
    Calls Try.prog 3 #[.int .i64 most, v1, .string key] w fun e w' => e = .returned (.bool true) ∧ Below w.heap.size w w' := by
  clear hmo
  have H := Lib.hid h
  have Hsm := Lib.hid (small_any v1 rows 20 w h)
  clear h
  unfold maxLen at hks
  by_cases hsb : smallB rows 20 = true
  · by_cases hk : key.size ≤ 200
    · have Hsb := Lib.hid hsb
      have hks2 : ¬ 200 < (key.size : Int) := by omega
      obtain ⟨hf1, hf2⟩ := smallB_facts hsb
      have Hf2 := Lib.hid hf2
      rw [hsb] at Hsm
      have hlen : rows.length ≤ 20 := by omega
      clear hf1 hf2 hsb
      go_enter Try.func3, Try.ntmps3
      go_wp2_with (go_at_call 7; refine Hsm.out.mono ?_; rintro e w1 ⟨rfl, hb1⟩; have Hb1 := Lib.hid hb1; clear hb1)
      refine (fill_any most v1 rows _ (H.out.below Hb1.out) hlen Hf2.out).mono ?_
      intro e w2 h2
      obtain ⟨mb, xb, B, rm, rx, rfl, hD, he, -, -, -⟩ := h2.out
      obtain ⟨hrl, hfl, hfs, -⟩ := fill_small Hsb.out (by omega) he rm.length
      have Hb2 := Lib.hid (Hb1.out.trans (hD.bel.mono Hb1.out.size))
      have hxl : rx.length = rm.length := by rw [← opsOf_len, hD.eq, opsOf_len]
      obtain ⟨a, c, hB, hO⟩ := hD.mo.ex
      obtain ⟨xa, xc, hX, hXo⟩ := hD.xo.ex
      have hat := at0_any w2 mb most _ a _ c _ _ 0 hB
      have hFA := flatO_all rm
      have hfl2 : (flatO rm (min ((rm.length : Nat) : Int).toNat rm.length)).length ≤ 100000 := by rw [Int.toNat_natCast, Nat.min_self]; exact hfl
      have hfs2 : ∀ x ∈ flatO rm (min ((rm.length : Nat) : Int).toNat rm.length), x.u.size ≤ 100000 ∧ x.v.size ≤ 100000 := by rw [Int.toNat_natCast, Nat.min_self]; exact fun x hx => by have := hfs x hx; omega
      have hg := get_yes mb key 0 _ most _ a c _ _ _ 0 w2 hB hO.isWs (by omega) hfl2 hfs2 (by omega) hat
      have hfi := fun (A : World) (hA : Below w2.heap.size w2 A) => find_any xb _ most rx (rm.length : Nat) key A (blk_bels hA hX) (hXo.isWs.below hA) (by omega)
      have hfo := fun (A : World) (hA : Below w2.heap.size w2 A) => fold_any mb (rm.length : Nat) most _ a c rm _ _ 0 A (blk_bels hA hB) (hO.isWs.below hA) (by omega) hfl2 hfs2
      rw [hFA, foldF_is] at hg
      rw [hFA] at hfo
      have hta : ((opsOf rx).take ((rm.length : Nat) : Int).toNat).flatten = (opsOf rm).flatten := by rw [hD.eq, Int.toNat_natCast, List.take_of_length_le (by rw [opsOf_len]; exact Nat.le_refl _)]
      rw [hta] at hfi
      obtain ⟨L, hL⟩ : ∃ L, L = (opsOf rm).flatten := ⟨_, rfl⟩
      rw [← hL] at hg hfi hfo
      have Hfo := Lib.hid hfo
      have Hfi := Lib.hid hfi
      have Hkf := Lib.hid (foldF_is key L)
      obtain ⟨⟨want, is⟩, hwi⟩ : ∃ p, p = findL key L := ⟨_, rfl⟩
      rw [← hwi] at hg Hfi Hkf
      dsimp only at hg Hfi Hkf
      have hx0 := fun (A : World) (hA : Below w2.heap.size w2 A) => (cell_of_blk (blk_bels hA hX) 0).trans (show _ = some (.slice xa rx.length xc) from rfl)
      rw [hxl] at hx0
      have Hx0 := Lib.hid hx0
      obtain ⟨rl, hrl2⟩ : ∃ q, q = rm.length := ⟨_, rfl⟩
      rw [← hrl2] at Hfi Hfo Hx0 hrl
      have Hg := Lib.hid hg
      clear hat hg hfi hfo hL hwi hta hFA hfl2 hfs2 hfl hfs hxl hB hO hX hXo hD he h2 hx0 hrl2
      obtain ⟨o, ho⟩ : ∃ o, o = (if is = true then some want else none) := ⟨_, rfl⟩
      rw [← ho] at Hg Hkf
      have hcases : (is = true ∧ valG o = want ∧ errG o = 0 ∧ o.isSome = true ∧ True) ∨ (is = false ∧ valG o = ⟨#[]⟩ ∧ errG o = 200 ∧ o.isSome = false ∧ want.toList = []) ∨ (is = false ∧ valG o = ⟨#[]⟩ ∧ errG o = 200 ∧ o.isSome = false ∧ ¬ want.toList = []) := by
        rw [ho]
        cases is with
        | true => exact .inl ⟨rfl, rfl, rfl, rfl, trivial⟩
        | false =>
          by_cases q : want.toList = []
          · exact .inr (.inl ⟨rfl, rfl, rfl, rfl, q⟩)
          · exact .inr (.inr ⟨rfl, rfl, rfl, rfl, q⟩)
      clear ho
      rcases hcases with ⟨rfl, hv, her, hos, hwe⟩ | ⟨rfl, hv, her, hos, hwe⟩ | ⟨rfl, hv, her, hos, hwe⟩
      all_goals
        rw [hv, her] at Hg
        have Hos := Lib.hid hos
        clear hv her hos
        go_wp2_with fail
        refine Hg.out.mono ?_
        rintro e w3 ⟨rfl, hb3⟩
        have Hb3 := Lib.hid hb3
        have x0 := Hx0.out w3 hb3
        clear hb3 Hg
        go_wp2_with (go_at_call 11; refine (Hfi.out _ Hb3.out).mono ?_; rintro e w4 ⟨rfl, hb4⟩; have Hb4 := Lib.hid (Hb3.out.trans (hb4.mono Hb3.out.size)); have x1 := Hx0.out w4 Hb4.out; clear hb4 x0)
        refine (Hfo.out _ Hb4.out).mono ?_
        rintro e V ⟨v', ks, rfl, hks3, hkl, hown, hbV⟩
        have hol := outO_len (foldF L) ks
        have hsl : IsOs V v' (outO (foldF L) ks) := isSl_own bo_len (by rw [hol]; exact hown)
        obtain ⟨a1, c1, rfl, -, -, -⟩ := id hsl
        obtain ⟨-, hc1, hm1, hxx⟩ := hsl.at
        rw [hol] at hc1 hxx ⊢
        obtain ⟨m, hm2⟩ : ∃ q, q = ks.length := ⟨_, rfl⟩
        rw [← hm2] at hc1 hxx hkl ⊢
        have hcn := cntK_is hks3 (key := key) (by unfold maxLen; omega)
        rw [Hkf.out] at hcn
        have Hcn := Lib.hid hcn
        have Hx := Lib.hid hxx
        have Hm2 := Lib.hid hm2
        have HbV := Lib.hid (Hb4.out.trans (hbV.mono Hb4.out.size))
        clear hol hsl hxx hm2 hks3 hbV hown Hfo Hfi Hkf x1 hcn Hx0
        go_wp2_with fail
        go_loopw [14, 84] (fun nv iv wr => ∃ k : Nat, k ≤ m ∧ iv = .int .i64 k ∧ nv = .int .i64 (cntK (ks.take k) key : Nat) ∧ Hid (Below V.heap.size V wr)) (fun _ iv _ => m - (intOf iv).toNat)
        case atStart => exact ⟨0, Nat.zero_le _, rfl, rfl, Lib.hid (Below.refl _ _)⟩
        case round =>
          obtain ⟨wo, rfl⟩ : ∃ wo : World, wo = wr := ⟨_, rfl⟩
          obtain ⟨k, hk2, rfl, rfl, hb⟩ := hrel
          have hcl := cntK_le (ks.take k) key
          have hcl2 : cntK (ks.take k) key ≤ k := Nat.le_trans hcl (List.length_take_le _ _)
          by_cases hkm : k < m
          · obtain ⟨b, off, rfl, hcell⟩ := Hx.out (by omega)
            obtain ⟨y, hyk⟩ : ∃ y, ks[k]? = some y := ⟨_, List.getElem?_eq_getElem (by rw [← Hm2.out]; exact hkm)⟩
            obtain ⟨e0, e1, e2⟩ := IsOs.row (w := wo) (fun i x hi j y hj => (hb.out.cell (block_lt_of_cell (hcell i x hi j y hj))).trans (hcell i x hi j y hj)) (outO_at (F := foldF L) hyk)
            have hsn : cntK (ks.take (k + 1)) key = cntK (ks.take k) key + (if ba y = key then 1 else 0) := by rw [List.take_add_one, hyk]; exact cntK_snoc _ _ _
            dsimp only at e0 e1 e2
            obtain ⟨u, hu⟩ : ∃ u, u = ba y := ⟨_, rfl⟩
            obtain ⟨val, hval⟩ : ∃ v, v = valO (foldF L) y := ⟨_, rfl⟩
            rw [← hu] at e1 hsn
            rw [← hval] at e2
            have Hsn := Lib.hid hsn
            have Hb2' : Hid (Below V.heap.size V (wo.alloc (.cells #[.int .i64 1, .string u, .string val] 40))) := Lib.hid (hb.out.alloc hb.out.size _)
            have hkmi : (k : Int) < (m : Int) := by omega
            obtain ⟨cn, hcnn⟩ : ∃ q, q = cntK (ks.take k) key := ⟨_, rfl⟩
            rw [← hcnn] at hcl2 Hsn ⊢
            clear hcell hyk hu hval hsn hb hcl hcnn
            by_cases hue : u = key
            · subst hue
              have Hn1 : Hid (cntK (ks.take (k + 1)) u = cn + 1) := Lib.hid (by rw [Hsn.out, if_pos rfl])
              go_wp2_with fail
              go_roundw
              case rel => exact ⟨k + 1, by omega, by go_num, by rw [Hn1.out]; go_num, Hb2'⟩
              case measure => simp [intOf]; omega
            · have hq := str_noO hue
              have Hn1 : Hid (cntK (ks.take (k + 1)) key = cn) := Lib.hid (by rw [Hsn.out, if_neg hue]; rfl)
              go_wp2_with fail
              go_roundw
              case rel => exact ⟨k + 1, by omega, by go_num, by rw [Hn1.out], Hb2'⟩
              case measure => simp [intOf]; omega
          · obtain rfl : m = k := by omega
            have hcf := Hcn.out
            rw [Hos.out] at hcf
            rw [List.take_of_length_le (by rw [← Hm2.out]; exact Nat.le_refl _)]
            have hcv : cntK ks key = _ := hcf.trans (by first | exact if_pos rfl | exact if_neg (by decide))
            rw [hcv]
            have Hfin := Lib.hid (Hb2.out.trans ((HbV.out.trans (hb.out.mono HbV.out.size)).mono Hb2.out.size))
            clear hb hcf hcv hcl hcl2
            go_wp2_with (go_at_call 8; refine (awake21_any _).mono ?_; rintro e w9 ⟨rfl, hb9⟩; have Hb9 := Lib.hid (Hfin.out.trans (hb9.mono Hfin.out.size)); clear hb9)
            go_ret
            exact ⟨rfl, Hb9.out⟩
    · have hks2 : 200 < (key.size : Int) := by omega
      rw [hsb] at Hsm
      clear hsb hk
      go_enter Try.func3, Try.ntmps3
      go_wp2_with (first | (go_at_call 7; refine Hsm.out.mono ?_; rintro e w1 ⟨rfl, hb1⟩; have Hb1 := Lib.hid hb1; clear hb1) | (go_at_call 8; refine (awake21_any _).mono ?_; rintro e w9 ⟨rfl, hb9⟩; have Hb9 := Lib.hid (Hb1.out.trans (hb9.mono Hb1.out.size)); clear hb9))
      go_ret
      exact ⟨rfl, Hb9.out⟩
  · have hsb2 : smallB rows 20 = false := by simpa using hsb
    rw [hsb2] at Hsm
    clear hsb hsb2
    go_enter Try.func3, Try.ntmps3
    go_wp2_with (first | (go_at_call 7; refine Hsm.out.mono ?_; rintro e w1 ⟨rfl, hb1⟩; have Hb1 := Lib.hid hb1; clear hb1) | (go_at_call 8; refine (awake21_any _).mono ?_; rintro e w9 ⟨rfl, hb9⟩; have Hb9 := Lib.hid (Hb1.out.trans (hb9.mono Hb1.out.size)); clear hb9))
    go_ret
    exact ⟨rfl, Hb9.out⟩
end Go.Proofs.Ytbnodgoccmhjkaa.Tithe
