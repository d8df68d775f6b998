/- A model's Fold: walked. -/
import Derived.Test.YtbnodgoccmhjkaaFlatFoldP
namespace Go.Proofs.Ytbnodgoccmhjkaa.Tithe
open Go.RowKit Go.Sort Go.Shelf Go.Maps
set_option linter.unusedVariables false
set_option linter.unusedSimpArgs false
set_option maxRecDepth 100000
theorem blk_newF {W : World} {n : Nat} (h : W.heap.size = n) (o : Obj) : (W.alloc o).heap[n]? = some o := by subst h; exact blk_of_alloc W o
theorem keeps_ofF {B : Nat} {X Y : World} (h : Below X.heap.size X Y) : KeepsFrom B X Y := (keeps_below' h).from B
theorem grown_belowF {A C : World} {row : Option Nat} {B : Nat} (hg : A.grownBy C row) (hr : ∀ r, row = some r → B ≤ r) (hB : B ≤ A.heap.size) : Below B A C := (Below.refl B A).grown hg hB hr
theorem grown_cell {A C : World} {row : Option Nat} {b i : Nat} {v : Value} (hg : A.grownBy C row) (hr : ∀ r, row = some r → r ≠ b) (h : A.cell? ⟨b, i, none⟩ = some v) : C.cell? ⟨b, i, none⟩ = some v :=
  (World.cell?_of_block (hg.block b (block_lt_of_cell h) (fun e => hr b e.symm rfl))).trans h
def FoldI (w : World) (mb : Nat) (k : Int) (L : List Bo) (j : Nat) (W : World) : Prop :=
  W.heap[w.heap.size + 1]? = some (.cells #[.map (some w.heap.size)] 71 (0, 0)) ∧
  W.heap[w.heap.size + 1 + 1]? = some (.cells #[.pointer (some ⟨mb, 0, none⟩)] 25 (0, 0)) ∧
  W.heap[w.heap.size + 1 + 1 + 1]? = some (.cells #[.int .i64 k] 3 (0, 0)) ∧
  OwnsSs W w.heap.size j (foldF (L.take j)) ∧ Below w.heap.size w W
theorem st_ss {B : Nat} (b : Nat) (n : Nat → Nat) (F : Nat → FunO) (hb : b < B) : OwnFrom B (fun j W => OwnsSs W b (n j) (F j)) := fun j W W' row h hg hr =>
  h.of_blk (hg.block b h.lt (fun e => by have := (hr b e.symm).1; omega))
theorem foldI_own {w : World} {mb : Nat} {k : Int} {L : List Bo} {B : Nat} (hB : w.heap.size < B) : OwnFrom B (FoldI w mb k L) :=
  st_and (st_blk _ _ _ _) (st_and (st_blk _ _ _ _) (st_and (st_blk _ _ _ _) (st_and (st_ss _ _ _ hB) (st_below (Nat.le_refl _) (Nat.le_of_lt hB)))))
theorem own_str {W : World} {base n : Nat} {xa : Option Addr} {xc : Nat} {ks : List (List UInt8)} (h : W.ownsRow base 9 1 (.slice xa n xc) n (ks.map encStr)) (hn : ks.length = n) (h0 : 0 < n) :
    ∃ g, xa = some ⟨g, 0, none⟩ ∧ g < W.heap.size ∧ ∀ k x, ks[k]? = some x → W.cell? ⟨g, k, none⟩ = some (.string (ba x)) := by
  rcases id h.2 with ⟨hv, he⟩ | ⟨g, cap, cur, hv, hb, hh, r⟩
  · omega
  · injection hv with h1 h2 h3
    subst h1
    subst h3
    refine ⟨g, rfl, (Array.getElem?_eq_some_iff.1 hh).1, fun k x hx => ?_⟩
    have hk := (List.getElem?_eq_some_iff.1 hx).1
    rw [h.cellAt k (by omega), List.getElem?_map, hx]
    rfl
theorem below_putF {w V : World} {D B : Nat} (hb : Below B w V) (o : Obj) (hD : B ≤ D) (hs : B ≤ V.heap.size) : Below B w (V.putObj D o) := hb.trans (grown_below (grownBy_putObj V D o) hD hs)
theorem below_grow0 {X Y : World} (h : X.grownBy Y none) : Below X.heap.size X Y := ⟨h.os, h.tape, h.output, h.size, fun k hk => h.block k hk (by simp)⟩
attribute [local go_sem] Oper.semAt_some
set_option maxHeartbeats 3200000 in
theorem fold_any (mb : Nat) (k : Int) (most last : Int) (a : Option Addr) (c : Nat) (rows : List Wr) (sm im : Nat) (hd : Int) (w : World) (hB : w.heap[mb]? = some (.cells (moC most last (.slice a rows.length c) sm im hd) 78 (0, 0))) (h : IsWs w (.slice a rows.length c) rows) (hl : rows.length ≤ 1000000)
    (hfl : (flatO rows (min k.toNat rows.length)).length ≤ 100000) (hsm : ∀ x ∈ flatO rows (min k.toNat rows.length), x.u.size ≤ 100000 ∧ x.v.size ≤ 100000) :
    Calls Try.prog 12 #[.pointer (some ⟨mb, 0, none⟩), .int .i64 k] w fun e w' => ∃ v' ks, e = .returned v' ∧ KeysIs (foldF (flatO rows (min k.toNat rows.length))) ks ∧ ks.length ≤ 100000 ∧ w'.ownsRow w.heap.size 40 3 v' ks.length (flat Bo.cells (outO (foldF (flatO rows (min k.toNat rows.length))) ks)) ∧ Below w.heap.size w w' := by
  have hit := fun W (hW : Below w.heap.size w W) => ops_iter (w.heap.size + 1 + 1) (w.heap.size + 1 + 1 + 1) mb k most last a c rows sm im hd w hB h hl
  obtain ⟨L, hL⟩ : ∃ L, L = flatO rows (min k.toNat rows.length) := ⟨_, rfl⟩
  rw [← hL] at hit hfl hsm ⊢
  have Hit := Lib.hid hit
  have Hsm := Lib.hid hsm
  have hmm := @run_makeMap Try.prog
  clear hit hsm h hB hl hL
  refine calls_of_marks Try.func12 rfl ?_
  simp only [Try.ntmps12, List.size_toArray, List.length_cons, List.length_nil, Nat.reduceAdd, Nat.reduceSub, Array.replicate_succ, Array.replicate_zero, List.push_toArray, List.append_toArray, List.nil_append, List.cons_append]
  go_wp2_with fail
  refine (ops_any _ _ _).mono ?_
  rintro e w' ⟨rfl, rfl⟩
  clear hmm
  go_wp2_with fail
  generalize hW : (((w.alloc (.map #[] 0)).alloc (.cells #[.map (some w.heap.size)] 71)).alloc (.cells #[.pointer (some ⟨mb, 0, none⟩)] 25)).alloc (.cells #[.int .i64 k] 3) = W
  have hWs : W.heap.size = w.heap.size + 1 + 1 + 1 + 1 := by rw [← hW]; simp only [World.size_alloc]
  have hI : FoldI w mb k L 0 W := by
    rw [← hW]
    exact ⟨blk_old (blk_old (blk_newF (by simp only [World.size_alloc]) _) _) _, blk_old (blk_newF (by simp only [World.size_alloc]) _) _, blk_newF (by simp only [World.size_alloc]) _,
      (OwnsSs.made w).of_blk ((blk_old (blk_old (blk_old (blk_newF rfl _) _) _) _).trans (blk_newF rfl _).symm), ((((Below.refl _ _).alloc (Nat.le_refl _) _).alloc (by simp) _).alloc (by simp; omega) _).alloc (by simp; omega) _⟩
  clear hW
  have HWs := Lib.hid hWs
  clear hWs
  refine range_lawS (gf := 49) (lb := #[.pointer (some ⟨w.heap.size + 1 + 1, 0, none⟩), .pointer (some ⟨w.heap.size + 1 + 1 + 1, 0, none⟩)]) rfl (enters_of Try.func49 (by kernel_rfl) rfl)
    (Hit.out w (Below.refl _ _)) (opEnc_size L) (FoldI w mb k L) (fun _ _ _ => False) (fun j X hX => ⟨hX.2.1, hX.2.2.1, hX.2.2.2.2⟩) (foldI_own (by rw [HWs.out]; omega)) (fun c k X Y row h _ _ => h) hI ?round ?done ?stop
  case stop => exact fun D c k X _ _ _ h _ => h.elim
  case round =>
    rintro yl j X hj hXs ⟨h1, h2, h3, hss, hb⟩
    obtain ⟨x, hx⟩ : ∃ x, L[j]? = some x := ⟨_, List.getElem?_eq_getElem hj⟩
    rw [opEnc_at hx]
    have hxs := Hsm.out x (List.mem_of_getElem? hx)
    have htk : foldF (L.take (j + 1)) = stepF (foldF (L.take j)) x := by rw [List.take_add_one, hx]; exact foldF_snoc _ _
    obtain ⟨kd, u, val⟩ := x
    dsimp only at hxs
    have Htk := Lib.hid htk
    have H1 := Lib.hid h1
    have H2 := Lib.hid h2
    have H3 := Lib.hid h3
    have Hss := Lib.hid hss
    have Hb := Lib.hid hb
    clear hx htk h1 h2 h3 hss hb
    dsimp only
    gi_wp2
    refine ⟨keeps_ofF ((Below.refl _ _).alloc (Nat.le_refl _) _), ?_⟩
    intro Y hY
    have hI2 : FoldI w mb k L j Y := st_turn (foldI_own (by rw [HWs.out]; omega)) hY ⟨blk_old H1.out _, blk_old H2.out _, blk_old H3.out _, Hss.out.below ((Below.refl _ _).alloc (Nat.le_refl _) _), Hb.out.alloc Hb.out.size _⟩
    have hm := blk_turn hY (blk_newF rfl (.cells #[.int .i64 kd, .string u, .string val] 40))
    have m0 := (cell_of_blk hm 0).trans (show _ = some (.int .i64 kd) from rfl)
    have m1 := (cell_of_blk hm 1).trans (show _ = some (.string u) from rfl)
    have m2 := (cell_of_blk hm 2).trans (show _ = some (.string val) from rfl)
    have hXb : w.heap.size < X.heap.size := by have := HWs.out; omega
    obtain ⟨h1, h2, h3, ⟨D, hown, hM, hat⟩, hb⟩ := hI2
    have c1 : Y.cell? ⟨w.heap.size + 1, 0, none⟩ = some (.map (some w.heap.size)) := (cell_of_blk h1 0).trans rfl
    clear H1 H2 H3 Hss Hb
    have H1 := Lib.hid h1
    have H2 := Lib.hid h2
    have H3 := Lib.hid h3
    have Hat := Lib.hid hat
    have HM := Lib.hid hM
    have Hb := Lib.hid hb
    have hkey := keyOf_str' (u := u) (by unfold maxLen; omega)
    have hel := plainElem_string (H := Unit) Try.underlying9 (s := val) (by unfold maxLen; omega)
    have hjn : j < maxLen := by unfold maxLen; omega
    clear h1 h2 h3 hat hM hb hm hY
    have fin : ∀ (n' : Nat) (Z : World), Y.grownBy Z (some w.heap.size) → OwnsSs Z w.heap.size n' (foldF (L.take (j + 1))) → n' ≤ j + 1 → KeepsFrom W.heap.size Y Z ∧ FoldI w mb k L (j + 1) Z := fun n' Z hg hs hn => by
      refine ⟨KeepsFrom.of_grownBy hg (fun q e => by cases e; rw [HWs.out]; omega), (hg.block _ (blk_lt H1.out) (by simp)).trans H1.out, (hg.block _ (blk_lt H2.out) (by simp; omega)).trans H2.out, (hg.block _ (blk_lt H3.out) (by simp; omega)).trans H3.out, hs.mono hn, Hb.out.trans (grown_belowF hg (fun r e => by cases e; exact Nat.le_refl _) Hb.out.size)⟩
    have Fin := Lib.hid fin
    clear fin
    by_cases hk1 : kd = 1
    · subst hk1
      gi_wp2_with (first
        | (gi_at_delete; refine wpListIn_delete_own _ rfl _ _ 71 9 rfl 9 strLaw Try.underlying71 _ w.heap.size j D rfl hown _ _ rfl hkey ?_; intro w1 hown1 hturn1
           have hg1 := turned_grown hturn1
           have n0 := grown_cell hg1 (fun r e => by cases e; omega) m0
           have n1 := grown_cell hg1 (fun r e => by cases e; omega) m1
           have n2 := grown_cell hg1 (fun r e => by cases e; omega) m2
           have d1 := grown_cell hg1 (fun r e => by cases e; omega) c1
           have Hg1 := Lib.hid hg1
           clear hturn1 hg1)
        | (gi_at_mapUpdate; refine wpListIn_mapUpdate_own _ rfl _ _ _ 71 rfl 9 9 strLaw Try.underlying71 _ w.heap.size j _ rfl hown1 hjn _ _ _ rfl rfl hkey _ [] hel ?_; intro w2 hown2 hg2)
        | gi_in)
      refine Fin.out (j + 1) w2 ?_ ?_ (Nat.le_refl _)
      · exact grown_trans' Hg1.out hg2
      · rw [Htk.out, foldF_put]
        exact OwnsSs.of_put (HM.out.del _) (fun y hy => at_del HM.out Hat.out u y hy) u val (by unfold maxLen; omega) hown2
    · have hk2 : (kd == 1) = false := beq_eq_false_iff_ne.2 hk1
      gi_wp2_with (first
        | (gi_at_delete; refine wpListIn_delete_own _ rfl _ _ 71 9 rfl 9 strLaw Try.underlying71 _ w.heap.size j D rfl hown _ _ rfl hkey ?_; intro w1 hown1 hturn1
           have hg1 := turned_grown hturn1
           have n0 := grown_cell hg1 (fun r e => by cases e; omega) m0
           have Hg1 := Lib.hid hg1
           clear hturn1 hg1)
        | gi_in)
      refine Fin.out j w1 Hg1.out ?_ (by omega)
      rw [Htk.out, foldF_del _ _ _ _ hk1]
      exact OwnsSs.of_del HM.out Hat.out u hown1
  case done =>
    rintro D X hD hXs ⟨h1, h2, h3, ⟨DD, hown, hM, hat⟩, hb⟩ hK
    rw [List.take_length] at hat
    have c1 : X.cell? ⟨w.heap.size + 1, 0, none⟩ = some (.map (some w.heap.size)) := (cell_of_blk h1 0).trans rfl
    have hDX := (Array.getElem?_eq_some_iff.1 hK).1
    have HM := Lib.hid hM
    have Hat := Lib.hid hat
    have Hb := Lib.hid hb
    have HK := Lib.hid hK
    have H1 := Lib.hid h1
    have HDX := Lib.hid hDX
    have hsz := hown.size_le
    have hwX : w.heap.size + 1 < X.heap.size := by have := HWs.out; omega
    have HwX := Lib.hid hwX
    obtain ⟨xs, hxs⟩ : ∃ xs, xs = X.heap.size := ⟨_, rfl⟩
    have Hxs := Lib.hid hxs
    clear hxs
    have HDw : Hid (w.heap.size + 1 < D) := by have := HWs.out; exact Lib.hid (by omega)
    clear h1 h2 h3 hM hat hb hK hD hXs hDX hwX hI Hit
    obtain ⟨i0, hi0, hz0, hz1, hz2⟩ := info_partsO strInfo
    go_wp2_with (first | (at_range; refine wpList_range_own _ rfl _ 71 rfl 9 9 strLaw Try.underlying71 _ w.heap.size L.length DD rfl hown ?_; intro w0 hrg0 hg0 hs0) | go_in)
    go_frame
    rw [← Hxs.out] at hrg0
    rw [← Hxs.out]
    have hb0 : Below X.heap.size X w0 := below_grow0 hg0
    clear hg0 hs0
    go_loopw [7] (fun v wr => ∃ (left : Lit → Bool) (cnt : Nat) (ss : List (List UInt8)) (xa : Option Addr) (xc : Nat), v = .slice xa ss.length xc ∧ wr.ranges Try.prog 9 strEl w.heap.size xs L.length DD left cnt ∧ ss.length + cnt ≤ L.length ∧ wr.ownsRow (xs + 1) 9 1 (.slice xa ss.length xc) ss.length (ss.map encStr) ∧ Collected DD left ss ∧ Hid (∀ x ∈ ss, x.length ≤ maxLen) ∧ Hid (Below X.heap.size X wr)) (fun _ wr => wr.rangeLeft w.heap.size xs)
    case atStart => exact ⟨_, _, [], none, 0, rfl, hrg0, by simpa using hsz, World.ownsRow_nil _ _ _ _, Collected.start DD, Lib.hid (fun x hx => by cases hx), Lib.hid hb0⟩
    case round =>
      obtain ⟨left, cnt, ss, xa, xc, rfl, hrg, hcs, hrow, hC, hle, hbw⟩ := hrel
      go_wp2_with (first
        | (at_next; refine wpList_next_ranges _ rfl _ rfl 9 strLaw strEl encStr Value.string (fun key kl hk => by obtain ⟨x, hx, _⟩ := Maps.keyOf_str Try.underlying9 hk; exact ⟨x, hx⟩) (fun v y hv => by obtain ⟨c, rfl, _⟩ := plainElem_str_inv Try.underlying9 hv; exact ⟨c, rfl⟩) w.heap.size xs L.length _ _ _ rfl hrg ?_ ?_)
        | go_in)
      · intro hc0 hl0
        have hxw : xs + 1 ≤ wr.heap.size := by have := hrg.lt; omega
        have hks := keys_of hC hl0 Hat.out hle.out
        have hso := sortS_any wr (xs + 1) (.slice xa ss.length xc) ss.length ss hrow (by omega) rfl
        have hkl : (ss.mergeSort leB).length = ss.length := List.length_mergeSort _
        have hwm := hrg.owns
        obtain ⟨n, hn⟩ : ∃ n, n = ss.length := ⟨_, rfl⟩
        obtain ⟨ks, hke⟩ : ∃ ks, ks = ss.mergeSort leB := ⟨_, rfl⟩
        rw [← hn] at hso hkl hrow hcs
        rw [← hke] at hso hkl hks
        rw [← hn]
        have hnl : n ≤ L.length := by omega
        have hrk := hrow.lt
        have Hks := Lib.hid hks
        have Hso := Lib.hid hso
        have Hkl := Lib.hid hkl
        have Hwm := Lib.hid hwm
        have Hrk := Lib.hid hrk
        have Hxw := Lib.hid hxw
        clear hks hso hkl hrow hrg hC hle hc0 hl0 hcs hke hn hwm hrk hxw hsz
        go_wp2_with fail
        refine Hso.out.mono ?_
        rintro e V ⟨rfl, hown2, hg2⟩
        have hbV : Below X.heap.size X V := hbw.out.grown hg2 hbw.out.size (fun j hj => by have := (Hrk.out j hj).1; have := Hxs.out; omega)
        have hmV : OwnsSs V w.heap.size L.length (foldF L) := ⟨DD, Hwm.out.kept hg2 (fun e => by have := (Hrk.out _ e.symm).1; have := HwX.out; have := Hxs.out; omega), HM.out, Hat.out⟩
        have c1V : V.cell? ⟨w.heap.size + 1, 0, none⟩ = some (.map (some w.heap.size)) := (hbV.cell HwX.out).trans c1
        have HbV := Lib.hid hbV
        have HmV := Lib.hid hmV
        have HoV := Lib.hid hown2
        have HcV := Lib.hid c1V
        clear hown2 hg2 hbV hmV c1 hbw c1V Hso Hwm Hrk Hxw
        go_wp2_with fail
        go_loopw [9, 42] (fun ov iv wr => ∃ k : Nat, k ≤ n ∧ iv = .int .i64 k ∧ ∃ oa oc, ov = .slice oa k oc ∧ wr.ownsRow V.heap.size 40 3 (.slice oa k oc) k (flat Bo.cells (outO (foldF L) (ks.take k))) ∧ Hid (Below V.heap.size V wr)) (fun _ iv _ => n - (intOf iv).toNat)
        case atStart => exact ⟨0, Nat.zero_le _, rfl, none, 0, rfl, World.ownsRow_nil _ _ _ _, Lib.hid (Below.refl _ _)⟩
        case round =>
          obtain ⟨wo, rfl⟩ : ∃ wo : World, wo = wr := ⟨_, rfl⟩
          obtain ⟨k, hk, rfl, oa, oc, rfl, hown, hb⟩ := hrel
          have Hown := Lib.hid hown
          clear hown
          by_cases hkn : k < n
          · obtain ⟨g, rfl, hgl, hce⟩ := own_str HoV.out Hkl.out (by omega)
            obtain ⟨x, hxk⟩ : ∃ x, ks[k]? = some x := ⟨_, List.getElem?_eq_getElem (by rw [Hkl.out]; exact hkn)⟩
            have hxm := List.mem_of_getElem? hxk
            have e0 := (hb.out.cell hgl).trans (hce k x hxk)
            obtain ⟨u, hu⟩ : ∃ u, u = ba x := ⟨_, rfl⟩
            have hul : u.size ≤ maxLen := by rw [hu]; exact Hks.out.le x hxm
            have hsome := (Hks.out.iff x (Hks.out.le x hxm)).1 hxm
            rw [← hu] at e0 hsome
            obtain ⟨v, hv⟩ := Option.isSome_iff_exists.1 hsome
            have htk : outO (foldF L) (ks.take (k + 1)) = outO (foldF L) (ks.take k) ++ [⟨1, u, v⟩] := by
              rw [List.take_add_one, hxk]
              unfold outO valO
              rw [List.map_append]
              simp [← hu, hv]
            have hlook := (HmV.out.below hb.out).look u v hul hv
            have cc := (hb.out.cell (p := ⟨w.heap.size + 1, 0, none⟩) (Nat.lt_of_lt_of_le HwX.out HbV.out.size)).trans HcV.out
            obtain ⟨ya, yc, w3, hrun, hown3, hg3⟩ := push_bo wo V.heap.size oa k oc (outO (foldF L) (ks.take k)) ⟨1, u, v⟩ Hown.out (by omega) hb.out.size
            rw [← htk] at hown3
            dsimp only at hrun hg3
            have Ho3 := Lib.hid hown3
            have Hb3 : Hid (Below V.heap.size V w3) := Lib.hid ((hb.out.alloc hb.out.size _).grown hg3 (Nat.le_trans hb.out.size (by simp)) (fun g e => (Hown.out.lt g e).1))
            clear hce hxk hxm hu hul hsome hv htk hown3 hg3 hb Hown
            go_wp2_with (at_builtin; first | (refine wpList_val rfl _ _ (run_append_op (.tmp 46) (.tmp 52) 37 37 rfl rfl rfl hrun) ?_) | (refine wpList_val rfl _ _ (run_append_op (.tmp 46) (.tmp 52) 37 37 rfl (by simp) (by simp) hrun) ?_))
            go_roundw
            case rel => exact ⟨k + 1, by omega, by go_num, ya, yc, rfl, Ho3.out, Hb3⟩
            case measure => simp [intOf]; omega
          · obtain rfl : n = k := by omega
            have hKo : wo.heap[D]? = some (.deferred (some [])) := (hb.out.block D (Nat.lt_of_lt_of_le HDX.out HbV.out.size)).trans ((HbV.out.block D HDX.out).trans HK.out)
            have hturn : BookTurn w.heap.size wo (wo.putObj D (.deferred none)) := ⟨some D, grownBy_putObj _ _ _, fun r e => by cases e; exact ⟨by have := HDw.out; omega, _, hKo, rfl⟩⟩
            have hown4 : (wo.putObj D (.deferred none)).ownsRow w.heap.size 40 3 (.slice oa n oc) n (flat Bo.cells (outO (foldF L) (ks.take n))) := by
              have h1 := (own_mono Hown.out (b2 := w.heap.size) (Nat.le_trans (Nat.le_of_lt (Nat.lt_of_succ_lt HwX.out)) HbV.out.size))
              exact st_turn (I := fun (_ : Unit) Z => Z.ownsRow w.heap.size 40 3 (.slice oa n oc) n (flat Bo.cells (outO (foldF L) (ks.take n)))) (s := ()) (st_own _ _ _ _ _ _) hturn h1
            have hb4 : Below w.heap.size w (wo.putObj D (.deferred none)) := below_putF (Hb.out.trans ((HbV.out.trans (hb.out.mono HbV.out.size)).mono Hb.out.size)) _ (by have := HDw.out; omega) (Hb.out.trans ((HbV.out.trans (hb.out.mono HbV.out.size)).mono Hb.out.size)).size
            have HKo := Lib.hid hKo
            have Ho4 := Lib.hid hown4
            have Hb4 := Lib.hid hb4
            clear hKo hturn hown4 hb4 hb
            go_wp2
            refine leave_mark HKo.out (v := .slice oa n oc) ?_ ⟨_, ks, rfl, Hks.out, by rw [Hkl.out]; omega, ?_, Hb4.out⟩
            · simp [results, Try.results12, go_sem]
            · have := Ho4.out
              rw [Hkl.out]
              rwa [List.take_of_length_le (by rw [Hkl.out]; exact Nat.le_refl _)] at this
      · intro x c kl yd yp w2 cnt2 hkey hlk hv hat hrg2 hlt hg2 hs2 hen
        obtain ⟨x', ex, rfl, hxl⟩ := Maps.keyOf_str Try.underlying9 hkey
        obtain rfl : x = x' := encStr_inj ex
        have hrow2 := hrow.kept hg2 (Or.inr (fun e => by have := (hrow.lt _ e).1; omega))
        have hxw : xs + 1 ≤ w2.heap.size := by have := hrg.lt; have := hg2.size; omega
        obtain ⟨ya, yc, w3, hrun, hown3, hg3⟩ := push_st w2 (xs + 1) xa ss.length xc ss x hrow2 (by omega) hxw
        have hrg3 := (hrg2.alloc (.cells #[encStr x] 9)).kept hg3 (fun e => by have := (hrow2.lt _ e.symm).1; have := HwX.out; have := Hxs.out; omega) (fun e => by have := (hrow2.lt _ e.symm).1; omega)
        have Hrg3 := Lib.hid hrg3
        have HC3 := Lib.hid (hC.step hlk hat)
        have Ho3 := Lib.hid hown3
        have Hb3 : Hid (Below X.heap.size X w3) := Lib.hid (by
          have b2 := hbw.out.grown hg2 hbw.out.size (fun j hj => by cases hj; rw [Hxs.out]; exact Nat.le_refl _)
          exact (b2.alloc b2.size _).grown hg3 (Nat.le_trans b2.size (by simp)) (fun g e => by have := (hrow2.lt _ e).1; have := Hxs.out; omega))
        have Hle3 : Hid (∀ z ∈ ss ++ [x], z.length ≤ maxLen) := Lib.hid (fun z hz => by
          rcases List.mem_append.1 hz with h | h
          · exact hle.out z h
          · rw [List.mem_singleton.1 h]; exact hxl)
        have Hm := Lib.hid (show w3.rangeLeft w.heap.size xs < wr.rangeLeft w.heap.size xs by rw [hrg3.left_eq, hrg.left_eq]; exact hlt)
        clear hs2 hrg3 hown3 hg3 hrow2 hxw hkey hlk hv hat hrg2 hg2 hrg hrow hC
        go_wp2_with (at_builtin; first | (refine wpList_val rfl _ _ (run_append_op (.tmp 34) (.tmp 36) 44 44 rfl rfl rfl hrun) ?_) | (refine wpList_val rfl _ _ (run_append_op (.tmp 34) (.tmp 36) 44 44 rfl (by simp) (by simp) hrun) ?_))
        go_roundw
        case rel =>
          have hl1 : (ss ++ [x]).length = ss.length + 1 := by simp
          exact ⟨_, cnt2, ss ++ [x], ya, yc, by rw [hl1], Hrg3.out, by rw [hl1]; omega, by rw [hl1]; exact Ho3.out, HC3.out, Hle3, Hb3⟩
        case measure => exact Hm.out
end Go.Proofs.Ytbnodgoccmhjkaa.Tithe
