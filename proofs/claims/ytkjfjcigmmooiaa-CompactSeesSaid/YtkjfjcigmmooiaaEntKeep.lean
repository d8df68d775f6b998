/- compact.Keep: walked. -/
import Derived.Test.YtkjfjcigmmooiaaEntGroups
namespace Go.Proofs.Ytkjfjcigmmooiaa.Tithe
open Go.RowKit Go.Sort Go.Shelf
set_option linter.unusedVariables false
theorem groups_any (a : Option Addr) (n c : Nat) (w : World) :
    Calls Try.prog 41 #[.slice a n c] w fun e w' => e = .returned (.func (.func 67) #[] #[.pointer (some ⟨w.heap.size, 0, none⟩)]) ∧ w' = w.alloc (.cells #[.slice a n c] 22) := by
  go_enter Try.func41, Try.ntmps41
  go_wp2
  go_ret
  exact ⟨rfl, rfl⟩
/-! ### what is kept -/
def trimN (sl : List En) (d : Bool) : Nat → Nat
  | 0 => 0
  | j + 1 => if (sl.getD j En.nil).key.k = 2 ∧ d = false then trimN sl d j else j + 1
theorem trimN_le (sl : List En) (d : Bool) : ∀ j, trimN sl d j ≤ j
  | 0 => Nat.le_refl _
  | j + 1 => by
    unfold trimN
    have := trimN_le sl d j
    split <;> omega
theorem trimN_stop {sl : List En} {d : Bool} {t : Nat} (h : (sl.getD t En.nil).key.k ≠ 2 ∨ d = true) : trimN sl d (t + 1) = t + 1 := by
  show (if (sl.getD t En.nil).key.k = 2 ∧ d = false then trimN sl d t else t + 1) = t + 1
  rw [if_neg]
  rintro ⟨h1, h2⟩
  rcases h with h | h
  · exact h h1
  · rw [h] at h2; cases h2
theorem trimN_go {sl : List En} {d : Bool} {t : Nat} (h : (sl.getD t En.nil).key.k = 2) (hd : d = false) : trimN sl d (t + 1) = trimN sl d t := by
  show (if (sl.getD t En.nil).key.k = 2 ∧ d = false then trimN sl d t else t + 1) = _
  rw [if_pos ⟨h, hd⟩]
def endsDel (sl : List En) : Prop := 0 < sl.length ∧ (sl.getD (sl.length - 1) En.nil).key.k = 2
def keepOf (zs : List Int) (dp : ByteArray → Bool) (g : List En) : List En := (seenTo g zs g.length).take (trimN (seenTo g zs g.length) (dp (g.getD 0 En.nil).key.u) (seenTo g zs g.length).length)
def keepTo (gs : List (List En)) (zs : List Int) (dp : ByteArray → Bool) (k : Nat) : List En := (gs.take k).flatMap (keepOf zs dp)
theorem keepTo_succ {gs : List (List En)} {k : Nat} {g : List En} (zs : List Int) (dp : ByteArray → Bool) (h : gs[k]? = some g) : keepTo gs zs dp (k + 1) = keepTo gs zs dp k ++ keepOf zs dp g := by
  unfold keepTo; rw [List.take_add_one, h, List.flatMap_append]; simp
theorem keepOf_le (zs : List Int) (dp : ByteArray → Bool) (g : List En) : (keepOf zs dp g).length ≤ g.length := by
  unfold keepOf
  rw [List.length_take]
  have := seenTo_le g zs g.length
  omega
theorem keepTo_le {gs : List (List En)} (zs : List Int) (dp : ByteArray → Bool) : ∀ k, k ≤ gs.length → (keepTo gs zs dp k).length ≤ posG gs k
  | 0, _ => by simp [keepTo, posG]
  | k + 1, hk => by
    have hg := List.getElem?_eq_getElem (l := gs) (i := k) (by omega)
    rw [keepTo_succ zs dp hg, posG_succ hg, List.length_append]
    have := keepTo_le (gs := gs) zs dp k (by omega)
    have := keepOf_le zs dp gs[k]
    omega
theorem seenTo_pos {g : List En} (zs : List Int) : ∀ k, 1 ≤ k → 1 ≤ (seenTo g zs k).length
  | 1, _ => by
    show 1 ≤ (if seenAt g zs 0 then seenTo g zs 0 ++ [g.getD 0 En.nil] else seenTo g zs 0).length
    have : seenAt g zs 0 = true := by simp [seenAt]
    rw [this]; simp
  | k + 2, _ => by
    have := seenTo_pos (g := g) zs (k + 1) (by omega)
    show 1 ≤ (if seenAt g zs (k + 1) then seenTo g zs (k + 1) ++ [g.getD (k + 1) En.nil] else seenTo g zs (k + 1)).length
    split
    · simp
    · exact this
/-! ### the walk -/
theorem blk_at5 (w : World) (o0 o1 o2 o3 o4 : Obj) (j : Nat) (o : Obj) (hj : j < 5) (ho : [o0, o1, o2, o3, o4][j]? = some o) : (((((w.alloc o0).alloc o1).alloc o2).alloc o3).alloc o4).heap[w.heap.size + j]? = some o := by
  match j, hj with
  | 0, _ => cases ho; exact (Below.heap_alloc _ _ _ (by simp <;> omega)).trans ((Below.heap_alloc _ _ _ (by simp <;> omega)).trans ((Below.heap_alloc _ _ _ (by simp <;> omega)).trans ((Below.heap_alloc _ _ _ (by simp)).trans (World.alloc_heap_new w _))))
  | 1, _ => cases ho; exact (Below.heap_alloc _ _ _ (by simp <;> omega)).trans ((Below.heap_alloc _ _ _ (by simp <;> omega)).trans ((Below.heap_alloc _ _ _ (by simp)).trans (by have := World.alloc_heap_new (w.alloc o0) o1; rwa [World.size_alloc] at this)))
  | 2, _ => cases ho; exact (Below.heap_alloc _ _ _ (by simp <;> omega)).trans ((Below.heap_alloc _ _ _ (by simp)).trans (by have := World.alloc_heap_new ((w.alloc o0).alloc o1) o2; rwa [World.size_alloc, World.size_alloc] at this))
  | 3, _ => cases ho; exact (Below.heap_alloc _ _ _ (by simp)).trans (by have := World.alloc_heap_new (((w.alloc o0).alloc o1).alloc o2) o3; rwa [World.size_alloc, World.size_alloc, World.size_alloc] at this)
  | 4, _ => cases ho; have := World.alloc_heap_new ((((w.alloc o0).alloc o1).alloc o2).alloc o3) o4; rwa [World.size_alloc, World.size_alloc, World.size_alloc, World.size_alloc] at this

def KeepI (w : World) (base : Nat) (v0 v1 v2 v3 vz : Value) (lv : Int) (kp : Nat → List En) (k : Nat) (V : World) : Prop :=
  (∃ x, V.heap[w.heap.size + 1 + 1 + 1]? = some (.cells #[x] 22 (0, 0)) ∧ V.ownsRow base 30 4 x (kp k).length (flat En.cells (kp k))) ∧
  V.heap[w.heap.size]? = some (.cells #[vz] 51 (0, 0)) ∧ V.heap[w.heap.size + 1]? = some (.cells #[v0, v1, v2, v3] 58 (0, 0)) ∧ V.heap[w.heap.size + 1 + 1]? = some (.cells #[.int .i64 lv] 3 (0, 0)) ∧ Below w.heap.size w V
theorem own_kept2 {W W' : World} {row : Option Nat} {B base : Nat} {e : TypeId} {size n : Nat} {x : Value} {xs : List Value} (h : W.ownsRow base e size x n xs) (hg : W.grownBy W' row) (hr : ∀ r, row = some r → B ≤ r ∧ ∃ o : Obj, W.heap[r]? = some o ∧ o.isCells = false) : W'.ownsRow base e size x n xs := by
  refine ⟨h.1, ?_⟩
  rcases h.2 with h0 | ⟨g, cap, cur, hv, hb, hh, r⟩
  · exact .inl h0
  · exact .inr ⟨g, cap, cur, hv, hb, (blk_kept hh rfl hg hr).trans hh, r⟩
theorem keepI_own {w : World} {base B : Nat} {v0 v1 v2 v3 vz : Value} {lv : Int} {kp : Nat → List En} (hB : w.heap.size ≤ B) : OwnFrom B (KeepI w base v0 v1 v2 v3 vz lv kp) := by
  rintro k V V' row ⟨⟨x, h1, h2⟩, h3, h4, h5, h6⟩ hg hr
  exact ⟨⟨x, (blk_kept h1 rfl hg hr).trans h1, own_kept2 h2 hg hr⟩, (blk_kept h3 rfl hg hr).trans h3, (blk_kept h4 rfl hg hr).trans h4, (blk_kept h5 rfl hg hr).trans h5, h6.grown hg h6.size (fun k e => Nat.le_trans hB (hr k e).1)⟩
theorem keepI_it {w : World} {base s : Nat} {v0 v1 v2 v3 vz : Value} {lv : Int} {kp : Nat → List En} {k : Nat} {A B : World} (hs : w.heap.size + 1 + 1 + 1 < s) (hb : s < base) (h : KeepI w base v0 v1 v2 v3 vz lv kp k A) (hit : CurIt s A B) : KeepI w base v0 v1 v2 v3 vz lv kp k B := by
  obtain ⟨⟨x, h1, h2⟩, h3, h4, h5, h6⟩ := h
  obtain ⟨hg, _⟩ := hit
  have kb : ∀ {j : Nat} {o : Obj}, A.heap[j]? = some o → j ≠ s → B.heap[j]? = some o := fun h e => (hg.block _ (Array.getElem?_eq_some_iff.1 h).1 (fun q => e (Option.some.inj q))).trans h
  exact ⟨⟨x, kb h1 (by omega), own_far h2 hg (fun r e => by cases e; exact hb)⟩, kb h3 (by omega), kb h4 (by omega), kb h5 (by omega), h6.trans (grown_below hg (by omega) h6.size)⟩
theorem curIt_keeps {B cb : Nat} {X Y : World} (h : CurIt cb X Y) : KeepsFrom B X Y := by
  obtain ⟨hg, cs, t, fr, hc⟩ := h
  refine ⟨hg.size, fun k o _ hk ho => (hg.block k (Array.getElem?_eq_some_iff.1 hk).1 (fun e => ?_)).trans hk⟩
  cases e
  rw [hc] at hk
  cases hk
  cases ho
theorem grDat_own {B s : Nat} {w0 : World} {a : Option Addr} {n c : Nat} {gs : List (List En)} (hB : w0.heap.size ≤ B) : OwnFrom B (GrDat s w0 a n c gs) := by
  intro k W W' row h hg hr
  cases k with
  | zero => exact ⟨(blk_kept h.1 rfl hg hr).trans h.1, h.2.grown hg h.2.size (fun k e => Nat.le_trans hB (hr k e).1)⟩
  | succ k => exact ⟨(blk_kept h.1 rfl hg hr).trans h.1, h.2.grown hg h.2.size (fun k e => Nat.le_trans hB (hr k e).1)⟩
def KeepA (a az : Option Addr) (n c nz cz S : Nat) (v0 v1 v2 v3 : Value) (lv : Int) (y : Value) : Act :=
  { tmps := #[.slice a n c, .slice az nz cz, .agg #[v0, v1, v2, v3], .int .i64 lv, undef, .pointer (some ⟨S, 0, none⟩), .pointer (some ⟨S + 1, 0, none⟩), .pointer (some ⟨S + 1 + 1, 0, none⟩), .slice none 0 0, .pointer (some ⟨S + 1 + 1 + 1, 0, none⟩), y, undef, .slice a n c, .func (.func 67) #[] #[.pointer (some ⟨S + 1 + 1 + 1 + 1, 0, none⟩)], y, undef, undef, undef, undef, undef, undef, undef, undef, undef, undef, undef, undef, undef, undef, undef, undef, undef, undef, undef, undef, undef, undef, undef, undef, undef, undef, undef, undef, undef, undef, undef, undef, undef, undef, undef, undef, undef], defers := [] }
theorem keeps_below {X Y : World} (h : Below X.heap.size X Y) : KeepsOthers X Y :=
  ⟨h.size, fun k o hk ho => (h.block k (Array.getElem?_eq_some_iff.1 hk).1).trans hk⟩
attribute [local go_sem] Oper.semAt_some
set_option maxHeartbeats 3200000 in
set_option maxRecDepth 100000 in
theorem keep_any (a az : Option Addr) (n c nz cz : Nat) (l : List En) (zs : List Int) (gs : List (List En)) (v0 v1 v2 v3 : Value) (lv : Int) (dp : ByteArray → Bool) (need : ByteArray → Prop) (w : World)
    (h : IsEs w (.slice a n c) l) (hz : IsZs w (.slice az nz cz) zs) (hgr : IsGr l gs) (hl : l.length ≤ 100000)
    (hneed : ∀ (k : Nat) (g : List En), gs[k]? = some g → endsDel (seenTo g zs g.length) → need (g.getD 0 En.nil).key.u)
    (hD : ∀ (u : ByteArray) (W : World), need u → Below w.heap.size w W → Calls Try.prog 19 #[.agg #[v0, v1, v2, v3], .int .i64 lv, .string u] W fun e W' => e = .returned (.bool (dp u)) ∧ Below W.heap.size W W') :
    Calls Try.prog 20 #[.slice a n c, .slice az nz cz, .agg #[v0, v1, v2, v3], .int .i64 lv] w fun e w' => ∃ v', e = .returned v' ∧ w'.ownsRow w.heap.size 30 4 v' (keepTo gs zs dp gs.length).length (flat En.cells (keepTo gs zs dp gs.length)) ∧ Below w.heap.size w w' := by
  obtain ⟨i0, hi0, hz0, hz1, hz2⟩ := info_parts' enInfo
  have H := Lib.hid h
  have Hz := Lib.hid hz
  have Hgr := Lib.hid hgr
  have Hneed := Lib.hid hneed
  have HD := Lib.hid hD
  obtain ⟨hn, hc, hm, -⟩ := h.at
  have Hn := Lib.hid hn
  have Hi0 := Lib.hid hi0
  have Hz0 := Lib.hid hz0
  have Hz1 := Lib.hid hz1
  have Hz2 := Lib.hid hz2
  clear h hz hgr hneed hD hn hi0 hz0 hz1 hz2
  refine calls_of_marks Try.func20 rfl ?_
  simp only [Try.ntmps20, List.size_toArray, List.length_cons, List.length_nil, Nat.reduceAdd, Nat.reduceSub, Array.replicate_succ, Array.replicate_zero, List.push_toArray, List.append_toArray, List.nil_append, List.cons_append]
  go_wp2_with fail
  refine (groups_any _ _ _ _).mono ?_
  rintro e w' ⟨rfl, rfl⟩
  go_wp2_with fail
  generalize hW : ((((w.alloc (.cells #[.slice az nz cz] 51)).alloc (.cells #[v0, v1, v2, v3] 58)).alloc (.cells #[.int .i64 lv] 3)).alloc (.cells #[.slice none 0 0] 22)).alloc (.cells #[.slice a n c] 22) = W
  have hWb : Below w.heap.size w W := by rw [← hW]; exact (((((Below.refl _ _).alloc (Nat.le_refl _) _).alloc (by simp) _).alloc (by simp; omega) _).alloc (by simp; omega) _).alloc (by simp; omega) _
  have hWs : W.heap.size = w.heap.size + 5 := by rw [← hW]; simp
  have b0 : W.heap[w.heap.size]? = some (.cells #[.slice az nz cz] 51 (0, 0)) := by rw [← hW]; exact blk_at5 w _ _ _ _ _ 0 _ (by omega) rfl
  have b1 : W.heap[w.heap.size + 1]? = some (.cells #[v0, v1, v2, v3] 58 (0, 0)) := by rw [← hW]; exact blk_at5 w _ _ _ _ _ 1 _ (by omega) rfl
  have b2 : W.heap[w.heap.size + 1 + 1]? = some (.cells #[.int .i64 lv] 3 (0, 0)) := by rw [← hW]; exact blk_at5 w _ _ _ _ _ 2 _ (by omega) rfl
  have b3 : W.heap[w.heap.size + 1 + 1 + 1]? = some (.cells #[.slice none 0 0] 22 (0, 0)) := by rw [← hW]; exact blk_at5 w _ _ _ _ _ 3 _ (by omega) rfl
  have b4 : W.heap[w.heap.size + 1 + 1 + 1 + 1]? = some (.cells #[.slice a n c] 22 (0, 0)) := by rw [← hW]; exact blk_at5 w _ _ _ _ _ 4 _ (by omega) rfl
  clear hW
  have HWb := Lib.hid hWb
  have HWs := Lib.hid hWs
  refine range_lawA (gf := 67) (lb := #[.pointer (some ⟨w.heap.size + 1 + 1 + 1 + 1, 0, none⟩)]) rfl (enters_of Try.func67 (by kernel_rfl) rfl)
    (groups_iter (w.heap.size + 1 + 1 + 1 + 1) w a n c l gs H.out Hgr.out (by omega)) (fun A B h => curIt_keeps h) (grDat_own (by omega)) ⟨by rw [restv_zero]; exact b4, hWb⟩ (fun _ => rfl)
    (KeepI w W.heap.size v0 v1 v2 v3 (.slice az nz cz) lv (keepTo gs zs dp))
    (fun _ _ _ => False)
    (keepI_own (by omega))
    (fun _ _ _ _ _ h _ _ => h) (fun k A B _ h e => keepI_it (by omega) (by omega) h e) (fun c k A B _ h e => h.elim)
    ⟨⟨_, b3, World.ownsRow_nil W _ _ _⟩, b0, b1, b2, hWb⟩
    (fun k a2 V => a2 = KeepA a az n c nz cz w.heap.size v0 v1 v2 v3 lv (.slice (restA a (posG gs k)) (gs.getD k []).length (c - posG gs k)) ∧ KeepI w W.heap.size v0 v1 v2 v3 (.slice az nz cz) lv (keepTo gs zs dp) k V)
    ?hI' ?assign ?body ?done ?stop
  case hI' =>
    rintro a2 k V V' row ⟨h1, h2⟩ hg hr
    exact ⟨h1, keepI_own (by omega) k V V' row h2 hg hr⟩
  case assign =>
    intro yl k V K hkN hV hI hD hK
    have hk1 := hK _ _ (KeepsFrom.refl _ _) ⟨rfl, hI⟩ hD
    have Hk1 := Lib.hid hk1
    clear hK hk1 hI hD
    unfold grEnc
    generalize (Value.slice (restA a (posG gs k)) (gs.getD k []).length (c - posG gs k)) = y at *
    gi_wp2
    exact Hk1.out
  case body =>
    rintro yl k a2 V hkp hVs ⟨rfl, hI⟩ hd
    obtain ⟨⟨x, hbox, hown⟩, hbz, hbv, hbl, hb⟩ := hI
    have hW1 : w.heap.size + 1 + 1 + 1 + 1 < W.heap.size := by omega
    clear hWs
    obtain ⟨g, hg⟩ : ∃ g, gs[k]? = some g := ⟨_, List.getElem?_eq_getElem hkp⟩
    have G := grAt Hgr.out hg
    have hgd : gs.getD k [] = g := by rw [List.getD_eq_getElem?_getD, hg]; rfl
    have hnl := Hn.out
    have hgp := G.pos
    have hgle := G.le
    have hG0 := H.out
    obtain ⟨b, off, rfl, -⟩ := hG0.at.2.2.2 (by omega)
    have hge := (((H.out.drop (posG gs k) (by omega) _ rfl).take g.length (by omega)).below (Hid.out (Lib.hid hb) |> fun q => q))
    rw [← G.eq] at hge
    have hra : restA (some ⟨b, off, none⟩) (posG gs k) = some ⟨b, off + posG gs k * 4, none⟩ := rfl
    have hnx := keepTo_succ zs dp hg
    have hkl := keepTo_le (gs := gs) zs dp k (by omega)
    have hgg : 0 < g.length := hgp
    obtain ⟨e0, he0⟩ : ∃ e0, g[0]? = some e0 := ⟨_, List.getElem?_eq_getElem hgg⟩
    have hu0 : (g.getD 0 En.nil).key.u = e0.key.u := by rw [List.getD_eq_getElem?_getD, he0]; rfl
    have hnd := Hneed.out k g hg
    have hkeep : keepOf zs dp g = (seenTo g zs g.length).take (trimN (seenTo g zs g.length) (dp (g.getD 0 En.nil).key.u) (seenTo g zs g.length).length) := rfl
    rw [hu0] at hkeep hnd
    have hcp : c - posG gs k ≤ 9223372036854775807 := by omega
    rw [hra, hgd]
    have hzV := Hz.out.below hb
    have hsn := callsIn_wide (n := 0).2 (seen_any _ _ g zs V hge hzV (by omega))
    have hf0 : V.cell? ⟨b, off + posG gs k * 4, none⟩ = some (.string e0.key.u) := by
      obtain ⟨b', o', e, hcell⟩ := hge.at.2.2.2 (by omega)
      injection e with e
      injection e with e1 e2
      subst e1 e2
      have := (IsEs.row hcell he0).1
      rwa [Nat.zero_mul, Nat.add_zero] at this
    have hsp := seenTo_pos (g := g) zs g.length hgp
    have hsle := seenTo_le g zs g.length
    have Hge := Lib.hid hge
    have Hsn := Lib.hid hsn
    have Hnx := Lib.hid hnx
    have Hkeep := Lib.hid hkeep
    have Hnd := Lib.hid hnd
    have Hd := Lib.hid hd
    have Hbox := Lib.hid hbox
    have Hown := Lib.hid hown
    have Hb := Lib.hid hb
    have Hbv := Lib.hid hbv
    have Hbl := Lib.hid hbl
    have Hf0 := Lib.hid hf0
    have z0 : V.cell? ⟨w.heap.size, 0, none⟩ = some (.slice az nz cz) := by rw [cell_blk hbz]; rfl
    have Hbz := Lib.hid hbz
    have Hra := Lib.hid hra
    have Hgp := Lib.hid G.succ
    have hbs := hb.size
    clear hge hsn hnx hkeep hnd hd hbox hown hb hbv hbl hbz hra G hf0 hzV hG0 hg hgd he0 hu0
    generalize seenTo g zs g.length = sl at *
    obtain ⟨m, hmm⟩ : ∃ m, m = sl.length := ⟨_, rfl⟩
    rw [← hmm] at Hsn Hkeep hsp hsle
    have Hmm := Lib.hid hmm
    clear hmm
    generalize off + posG gs k * 4 = o at *
    unfold KeepA
    gi_wp2_with fail
    refine ⟨trivial, rfl, ?_⟩
    refine Hsn.out.mono ?_
    rintro e V1 ⟨v1, rfl, hown1, hb1⟩
    obtain ⟨kg, kc, rfl, hkg, hkl1⟩ := hown1.form hsp
    have Hown1 := Lib.hid hown1
    have Hb1 := Lib.hid hb1
    have hb1s := hb1.size
    have hkc := (isSl_own en_len (by rw [← Hmm.out]; exact hown1)).at.2.2.1
    have hkm := (isSl_own (l := sl) en_len (by rw [← Hmm.out]; exact hown1)).at.2.1
    clear hown1 hb1
    gi_wp2_with fail
    gi_loopg [11] (m + 1) (fun gh sv wr => ∃ j : Nat, j ≤ m ∧ gh = j + 1 ∧ sv = .slice (some ⟨kg, 0, none⟩) j kc ∧ trimN sl (dp e0.key.u) j = trimN sl (dp e0.key.u) m ∧ (j < m → endsDel sl) ∧ Below V1.heap.size V1 wr)
    case atStart => exact ⟨m, Nat.le_refl _, rfl, rfl, rfl, fun q => absurd q (Nat.lt_irrefl _), Below.refl _ _⟩
    case round =>
      obtain ⟨wo, rfl⟩ : ∃ wo : World, wo = wr := ⟨_, rfl⟩
      obtain ⟨j, hjm, rfl, rfl, htr, hed, hbr⟩ := hrel
      have Hbr := Lib.hid hbr
      have Htr := Lib.hid htr
      have Hed := Lib.hid hed
      clear hbr htr hed
      have hundef : undef = Value.tuple #[] := rfl
      have Hun := Lib.hid hundef
      clear hundef
      rcases Nat.eq_zero_or_pos j with hj0 | hj0
      · subst hj0
        gi_wp2_with fail
        refine round_quiet (C := fun w' => ∃ p : Regrown, w' = grow (redrawn wo p.d) p.os) (by kernel_rfl) (by kernel_rfl) ⟨⟨wo.drawn + 1, #[]⟩, by rw [grow_empty]; rfl⟩ (by kernel_rfl) ?_ ?_
        · rintro ⟨a, w, h⟩
          exact h
        repeat (go_big_quiet_step (fail))
        refine wpQuiet_nil ?_
        intro _ hw'
        obtain ⟨⟨dq, osq⟩, hw''⟩ := hw'
        subst hw''
        have Hbq := Lib.hid (Hbr.out.trans ((below_regrown wo dq osq).mono Hbr.out.size))
        have htr : 0 = trimN sl (dp e0.key.u) m := by rw [← Htr.out]; rfl
        have hV2 : Below V.heap.size V (grow (redrawn wo dq) osq) := Hb1.out.trans (Hbq.out.mono Hb1.out.size)
        have hown2 : (grow (redrawn wo dq) osq).ownsRow V.heap.size 30 4 (.slice (some ⟨kg, 0, none⟩) m kc) m (flat En.cells sl) := own_below Hown1.out Hbq.out
        have HV2 := Lib.hid hV2
        have Hown2 := Lib.hid hown2
        have Htr := Lib.hid htr
        clear hV2 hown2 htr Hbr
        generalize grow (redrawn wo dq) osq = V2 at *
        have hbox2 : V2.heap[w.heap.size + 1 + 1 + 1]? = some (.cells #[x] 22 (0, 0)) := (HV2.out.block _ (Array.getElem?_eq_some_iff.1 Hbox.out).1).trans Hbox.out
        have hownx := own_below Hown.out HV2.out
        have c0 : V2.cell? ⟨w.heap.size + 1 + 1 + 1, 0, none⟩ = some x := by rw [cell_blk hbox2]; rfl
        have c1 : V2.frozen? ⟨w.heap.size + 1 + 1 + 1, 0, none⟩ = false := frozen_blk hbox2 0
        have hjm : 0 ≤ m := by have := trimN_le sl (dp e0.key.u) m; have := Htr.out; omega
        have hslj : (sl.take (0)).length = 0 := by rw [List.length_take, ← Hmm.out]; omega
        have hnews : IsEs V2 (.slice (some ⟨kg, 0, none⟩) (0) kc) (sl.take (0)) := (isSl_own (l := sl) en_len (by rw [← Hmm.out]; exact Hown2.out)).take (0) hjm
        have hnews2 := hnews.news en_len
        have Hnews2 := Lib.hid hnews2
        have Hslj := Lib.hid hslj
        have Hbox2 := Lib.hid hbox2
        have hlt := hownx.lt
        have Hlt := Lib.hid hlt
        have hV2s := HV2.out.size
        have hkpl : (keepTo gs zs dp k).length ≤ 100000 := by omega
        clear hnews hnews2 hslj hbox2 hlt
        have hi0 := Hi0.out
        have hz0 := Hz0.out
        have hz1 := Hz1.out
        have hz2 := Hz2.out
        generalize hq : keepTo gs zs dp k = kp at *
        have Hq := Lib.hid hq
        clear hq
        gi_wp2_with (first | (gi_at_builtin; refine wpListIn_append_own _ rfl (.tmp 48) (.tmp 49) 22 rfl W.heap.size 30 i0 (.agg #[.string ⟨#[]⟩, .int .i64 0, .int .i64 0, .string ⟨#[]⟩]) 4 48 Try.underlying22 hi0 hz0 hz1 hz2 rfl (by decide) _ kp.length _ rfl hownx ⟨kg, 0, none⟩ (0) kc (flat En.cells (sl.take (0))) rfl ?c0 ?c1 ?c2 ?c3 ?c4 ?c5 ?_))
        case c0 => rw [flat_length en_len, Hslj.out]
        case c1 => exact Hnews2.out
        case c2 => exact ens_one _
        case c3 => unfold maxLen; omega
        case c4 => omega
        case c5 => omega
        intro v' V3 hown' hgrow _
        have hob : w.heap.size + 1 + 1 + 1 < V2.heap.size := (Array.getElem?_eq_some_iff.1 Hbox2.out).1
        have hb3 : Below w.heap.size w V3 := (Hb.out.trans (HV2.out.mono Hb.out.size)).grown hgrow (by omega) (fun r hr => by have := Hlt.out r hr; omega)
        have hbx3 : V3.heap[w.heap.size + 1 + 1 + 1]? = some (.cells #[x] 22 (0, 0)) := (hgrow.block _ hob (fun e => by have := Hlt.out _ e.symm; omega)).trans Hbox2.out
        have hkeepb : ∀ (i : Nat) (ob : Obj), i < W.heap.size → V.heap[i]? = some ob → V3.heap[i]? = some ob := fun i ob hi h => by
          have h1 := (Array.getElem?_eq_some_iff.1 h).1
          have h2 := (HV2.out.block i h1).trans h
          exact (hgrow.block i (Array.getElem?_eq_some_iff.1 h2).1 (fun e => by have := Hlt.out _ e.symm; omega)).trans h2
        have kp23 : KeepsOthers V2 V3 := KeepsOthers.of_grownBy hgrow (fun i ob hi ho => by
          rcases hownx.2 with ⟨hx, _⟩ | ⟨g', cap', cur, hx, hgb, hh, _⟩
          · rw [hx] at hi; cases hi
          · rw [hx] at hi; simp [Value.ownBlock] at hi
            subst hi
            rw [hh] at ho
            cases ho; rfl)
        have kpv : KeepsOthers V V3 := (keeps_below HV2.out).trans kp23
        have hnk : keepTo gs zs dp (k + 1) = kp ++ sl.take (0) := by rw [Hnx.out, Hkeep.out, ← Htr.out]
        have hown4 : V3.ownsRow W.heap.size 30 4 v' (keepTo gs zs dp (k + 1)).length (flat En.cells (keepTo gs zs dp (k + 1))) := by
          rw [hnk, List.length_append, Hslj.out, flat_append]; exact hown'
        obtain ⟨nk, hnk2⟩ : ∃ nk, nk = (keepTo gs zs dp (k + 1)).length := ⟨_, rfl⟩
        rw [← hnk2] at hown4
        have Hnk := Lib.hid hnk2
        clear hnk2
        obtain ⟨va, vc, rfl⟩ := own_slice hown4
        have c2 : V3.cell? ⟨w.heap.size + 1 + 1 + 1, 0, none⟩ = some x := by rw [cell_blk hbx3]; rfl
        have c3 : V3.frozen? ⟨w.heap.size + 1 + 1 + 1, 0, none⟩ = false := frozen_blk hbx3 0
        have Hown4 := Lib.hid hown4
        have Hb3 := Lib.hid hb3
        have Hbx3 := Lib.hid hbx3
        have Hkeepb := Lib.hid hkeepb
        have Hkpv := Lib.hid kpv
        clear hown' hown4 hgrow hownx hb3 hbx3 hkeepb kp23 kpv c0 c1 hnk hi0 hz0 hz1 hz2
        gi_wp2
        have hset := fun vv => grown_setCell' V3 (w.heap.size + 1 + 1 + 1) 0 vv
        have hblk : ∀ (vv : Value) (i : Nat) (ob : Obj), i < W.heap.size → i ≠ w.heap.size + 1 + 1 + 1 → V.heap[i]? = some ob → (V3.setCell ⟨w.heap.size + 1 + 1 + 1, 0, none⟩ vv).heap[i]? = some ob := fun vv i ob hi hne h => (Below.heap_setCell _ _ _ _ hne).trans (Hkeepb.out i ob hi h)
        have hbw4 : ∀ vv, Below w.heap.size w (V3.setCell ⟨w.heap.size + 1 + 1 + 1, 0, none⟩ vv) := fun vv => Hb3.out.trans (grown_below (hset vv) (by omega) Hb3.out.size)
        exact ⟨(Hkpv.out.trans (KeepsOthers.setCell _ _ _)).from _, ⟨hblk _ _ _ (by omega) (by omega) Hd.out.1, hbw4 _⟩, ⟨_, by rw [blk_setCell Hbx3.out]; rfl, by rw [← Hnk.out]; exact own_far Hown4.out (hset _) (fun r e => by cases e; omega)⟩, hblk _ _ _ (by omega) (by omega) Hbz.out, hblk _ _ _ (by omega) (by omega) Hbv.out, hblk _ _ _ (by omega) (by omega) Hbl.out, hbw4 _⟩
      · obtain ⟨t, hjt⟩ : ∃ t, j = t + 1 := ⟨j - 1, by omega⟩
        obtain ⟨y, hy⟩ : ∃ y, sl[t]? = some y := ⟨_, List.getElem?_eq_getElem (by rw [← Hmm.out]; omega)⟩
        have hslv : IsEs wo (.slice (some ⟨kg, 0, none⟩) m kc) sl := isSl_own en_len (by rw [← Hmm.out]; exact own_below Hown1.out Hbr.out)
        have hky : wo.cell? ⟨kg, 0 + t * 4 + 2, none⟩ = some (.int .i64 y.key.k) := by
          obtain ⟨b', o', e, hcell⟩ := hslv.at.2.2.2 (by omega)
          injection e with e
          injection e with e1 e2
          subst e1 e2
          exact (IsEs.row hcell hy).2.2.1
        rw [Nat.zero_add] at hky
        have hyd : sl.getD t En.nil = y := by rw [List.getD_eq_getElem?_getD, hy]; rfl
        have hbo : Below V.heap.size V wo := Hb1.out.trans (Hbr.out.mono Hb1.out.size)
        have bv := (hbo.block _ (Array.getElem?_eq_some_iff.1 Hbv.out).1).trans Hbv.out
        have bl := (hbo.block _ (Array.getElem?_eq_some_iff.1 Hbl.out).1).trans Hbl.out
        have q0 := cell_regrown (w := wo) (a := ⟨w.heap.size + 1, 0, none⟩) (v := v0) (by rw [cell_blk bv]; rfl)
        have q1 := cell_regrown (w := wo) (a := ⟨w.heap.size + 1, 1, none⟩) (v := v1) (by rw [cell_blk bv]; rfl)
        have q2 := cell_regrown (w := wo) (a := ⟨w.heap.size + 1, 2, none⟩) (v := v2) (by rw [cell_blk bv]; rfl)
        have q3 := cell_regrown (w := wo) (a := ⟨w.heap.size + 1, 3, none⟩) (v := v3) (by rw [cell_blk bv]; rfl)
        have q4 := cell_regrown (w := wo) (a := ⟨w.heap.size + 1 + 1, 0, none⟩) (v := .int .i64 lv) (by rw [cell_blk bl]; rfl)
        have q5 := cell_regrown (w := wo) (a := ⟨b, o, none⟩) (v := .string e0.key.u) ((hbo.cell (block_lt_of_cell Hf0.out)).trans Hf0.out)
        have q6 := cell_regrown hky
        have hws : Below w.heap.size w wo := Hb.out.trans (hbo.mono Hb.out.size)
        have hwj : IntKind.i64.wrap ((j : Int) - 1) = (t : Int) := (IntWalk.i64_in _ (by omega)).trans (by omega)
        have htj : t < j := by omega
        have htk : t ≤ kc := by omega
        have Hws := Lib.hid hws
        have Hyd := Lib.hid hyd
        have Hjt := Lib.hid hjt
        clear hslv hky hyd hbo bv bl hws hy hjt
        obtain ⟨⟨yu, ys, yk⟩, yv⟩ := y
        dsimp only at q6
        by_cases hk2 : yk = 2
        · subst hk2
          have hend : endsDel sl := by
            by_cases q : j < m
            · exact Hed.out q
            · have hjm2 : j = m := by omega
              have := Hjt.out
              refine ⟨by rw [← Hmm.out]; omega, ?_⟩
              rw [← Hmm.out, show m - 1 = t by omega, Hyd.out]
          have Hend := Lib.hid hend
          have hdc := fun (d : Nat) (os : Array Obj) => Calls.regrown_of (HD.out e0.key.u (grow (redrawn wo d) os) (Hnd.out hend) (Hws.out.trans ((below_regrown wo d os).mono Hws.out.size)))
          cases hdv : dp e0.key.u with
          | true =>
            rw [hdv] at hdc
            have Hdc := Lib.hid hdc
            have Hdv := Lib.hid hdv
            clear hdc hdv hend
            gi_wp2_with fail
            refine round_quiet (C := fun w' => ∃ p : Regrown, w' = grow (redrawn wo p.d) p.os) (by kernel_rfl) (by kernel_rfl) ⟨⟨wo.drawn + 1, #[]⟩, by rw [grow_empty]; rfl⟩ (by kernel_rfl) ?_ ?_
            · rintro ⟨a, w, h⟩
              exact h
            repeat (go_big_quiet_step (with_reducible exact Hdc.out _ _))
            refine wpQuiet_nil ?_
            intro _ hw'
            obtain ⟨⟨dq, osq⟩, hw''⟩ := hw'
            subst hw''
            have Hbq := Lib.hid (Hbr.out.trans ((below_regrown wo dq osq).mono Hbr.out.size))
            have htr : j = trimN sl (dp e0.key.u) m := by rw [← Htr.out, Hjt.out]; exact (trimN_stop (.inr Hdv.out)).symm
            have hV2 : Below V.heap.size V (grow (redrawn wo dq) osq) := Hb1.out.trans (Hbq.out.mono Hb1.out.size)
            have hown2 : (grow (redrawn wo dq) osq).ownsRow V.heap.size 30 4 (.slice (some ⟨kg, 0, none⟩) m kc) m (flat En.cells sl) := own_below Hown1.out Hbq.out
            have HV2 := Lib.hid hV2
            have Hown2 := Lib.hid hown2
            have Htr := Lib.hid htr
            clear hV2 hown2 htr Hbr
            generalize grow (redrawn wo dq) osq = V2 at *
            have hbox2 : V2.heap[w.heap.size + 1 + 1 + 1]? = some (.cells #[x] 22 (0, 0)) := (HV2.out.block _ (Array.getElem?_eq_some_iff.1 Hbox.out).1).trans Hbox.out
            have hownx := own_below Hown.out HV2.out
            have c0 : V2.cell? ⟨w.heap.size + 1 + 1 + 1, 0, none⟩ = some x := by rw [cell_blk hbox2]; rfl
            have c1 : V2.frozen? ⟨w.heap.size + 1 + 1 + 1, 0, none⟩ = false := frozen_blk hbox2 0
            have hjm : j ≤ m := by have := trimN_le sl (dp e0.key.u) m; have := Htr.out; omega
            have hslj : (sl.take (j)).length = j := by rw [List.length_take, ← Hmm.out]; omega
            have hnews : IsEs V2 (.slice (some ⟨kg, 0, none⟩) (j) kc) (sl.take (j)) := (isSl_own (l := sl) en_len (by rw [← Hmm.out]; exact Hown2.out)).take (j) hjm
            have hnews2 := hnews.news en_len
            have Hnews2 := Lib.hid hnews2
            have Hslj := Lib.hid hslj
            have Hbox2 := Lib.hid hbox2
            have hlt := hownx.lt
            have Hlt := Lib.hid hlt
            have hV2s := HV2.out.size
            have hkpl : (keepTo gs zs dp k).length ≤ 100000 := by omega
            clear hnews hnews2 hslj hbox2 hlt
            have hi0 := Hi0.out
            have hz0 := Hz0.out
            have hz1 := Hz1.out
            have hz2 := Hz2.out
            generalize hq : keepTo gs zs dp k = kp at *
            have Hq := Lib.hid hq
            clear hq
            gi_wp2_with (first | (gi_at_builtin; refine wpListIn_append_own _ rfl (.tmp 48) (.tmp 49) 22 rfl W.heap.size 30 i0 (.agg #[.string ⟨#[]⟩, .int .i64 0, .int .i64 0, .string ⟨#[]⟩]) 4 48 Try.underlying22 hi0 hz0 hz1 hz2 rfl (by decide) _ kp.length _ rfl hownx ⟨kg, 0, none⟩ (j) kc (flat En.cells (sl.take (j))) rfl ?c0 ?c1 ?c2 ?c3 ?c4 ?c5 ?_))
            case c0 => rw [flat_length en_len, Hslj.out]
            case c1 => exact Hnews2.out
            case c2 => exact ens_one _
            case c3 => unfold maxLen; omega
            case c4 => omega
            case c5 => omega
            intro v' V3 hown' hgrow _
            have hob : w.heap.size + 1 + 1 + 1 < V2.heap.size := (Array.getElem?_eq_some_iff.1 Hbox2.out).1
            have hb3 : Below w.heap.size w V3 := (Hb.out.trans (HV2.out.mono Hb.out.size)).grown hgrow (by omega) (fun r hr => by have := Hlt.out r hr; omega)
            have hbx3 : V3.heap[w.heap.size + 1 + 1 + 1]? = some (.cells #[x] 22 (0, 0)) := (hgrow.block _ hob (fun e => by have := Hlt.out _ e.symm; omega)).trans Hbox2.out
            have hkeepb : ∀ (i : Nat) (ob : Obj), i < W.heap.size → V.heap[i]? = some ob → V3.heap[i]? = some ob := fun i ob hi h => by
              have h1 := (Array.getElem?_eq_some_iff.1 h).1
              have h2 := (HV2.out.block i h1).trans h
              exact (hgrow.block i (Array.getElem?_eq_some_iff.1 h2).1 (fun e => by have := Hlt.out _ e.symm; omega)).trans h2
            have kp23 : KeepsOthers V2 V3 := KeepsOthers.of_grownBy hgrow (fun i ob hi ho => by
              rcases hownx.2 with ⟨hx, _⟩ | ⟨g', cap', cur, hx, hgb, hh, _⟩
              · rw [hx] at hi; cases hi
              · rw [hx] at hi; simp [Value.ownBlock] at hi
                subst hi
                rw [hh] at ho
                cases ho; rfl)
            have kpv : KeepsOthers V V3 := (keeps_below HV2.out).trans kp23
            have hnk : keepTo gs zs dp (k + 1) = kp ++ sl.take (j) := by rw [Hnx.out, Hkeep.out, ← Htr.out]
            have hown4 : V3.ownsRow W.heap.size 30 4 v' (keepTo gs zs dp (k + 1)).length (flat En.cells (keepTo gs zs dp (k + 1))) := by
              rw [hnk, List.length_append, Hslj.out, flat_append]; exact hown'
            obtain ⟨nk, hnk2⟩ : ∃ nk, nk = (keepTo gs zs dp (k + 1)).length := ⟨_, rfl⟩
            rw [← hnk2] at hown4
            have Hnk := Lib.hid hnk2
            clear hnk2
            obtain ⟨va, vc, rfl⟩ := own_slice hown4
            have c2 : V3.cell? ⟨w.heap.size + 1 + 1 + 1, 0, none⟩ = some x := by rw [cell_blk hbx3]; rfl
            have c3 : V3.frozen? ⟨w.heap.size + 1 + 1 + 1, 0, none⟩ = false := frozen_blk hbx3 0
            have Hown4 := Lib.hid hown4
            have Hb3 := Lib.hid hb3
            have Hbx3 := Lib.hid hbx3
            have Hkeepb := Lib.hid hkeepb
            have Hkpv := Lib.hid kpv
            clear hown' hown4 hgrow hownx hb3 hbx3 hkeepb kp23 kpv c0 c1 hnk hi0 hz0 hz1 hz2
            gi_wp2
            have hset := fun vv => grown_setCell' V3 (w.heap.size + 1 + 1 + 1) 0 vv
            have hblk : ∀ (vv : Value) (i : Nat) (ob : Obj), i < W.heap.size → i ≠ w.heap.size + 1 + 1 + 1 → V.heap[i]? = some ob → (V3.setCell ⟨w.heap.size + 1 + 1 + 1, 0, none⟩ vv).heap[i]? = some ob := fun vv i ob hi hne h => (Below.heap_setCell _ _ _ _ hne).trans (Hkeepb.out i ob hi h)
            have hbw4 : ∀ vv, Below w.heap.size w (V3.setCell ⟨w.heap.size + 1 + 1 + 1, 0, none⟩ vv) := fun vv => Hb3.out.trans (grown_below (hset vv) (by omega) Hb3.out.size)
            exact ⟨(Hkpv.out.trans (KeepsOthers.setCell _ _ _)).from _, ⟨hblk _ _ _ (by omega) (by omega) Hd.out.1, hbw4 _⟩, ⟨_, by rw [blk_setCell Hbx3.out]; rfl, by rw [← Hnk.out]; exact own_far Hown4.out (hset _) (fun r e => by cases e; omega)⟩, hblk _ _ _ (by omega) (by omega) Hbz.out, hblk _ _ _ (by omega) (by omega) Hbv.out, hblk _ _ _ (by omega) (by omega) Hbl.out, hbw4 _⟩
          | false =>
            rw [hdv] at hdc
            have Hdc := Lib.hid hdc
            have Hdv := Lib.hid hdv
            clear hdc hdv hend
            gi_wp2_with fail
            refine round_quiet (C := fun w' => ∃ p : Regrown, w' = grow (redrawn wo p.d) p.os) (by kernel_rfl) (by kernel_rfl) ⟨⟨wo.drawn + 1, #[]⟩, by rw [grow_empty]; rfl⟩ (by kernel_rfl) ?_ ?_
            · rintro ⟨a, w, h⟩
              exact h
            repeat (go_big_quiet_step (with_reducible exact Hdc.out _ _))
            refine wpQuiet_nil ?_
            intro _ hw'
            obtain ⟨⟨dq, osq⟩, hw''⟩ := hw'
            subst hw''
            have Hbq := Lib.hid (Hbr.out.trans ((below_regrown wo dq osq).mono Hbr.out.size))
            gi_wp2
            gi_roundg (t + 1)
            case measure => have := Hjt.out; omega
            case rel =>
              refine ⟨t, by omega, rfl, rfl, ?_, fun _ => Hend.out, Hbq.out⟩
              have := Htr.out
              rw [Hjt.out, trimN_go (d := dp e0.key.u) (by rw [Hyd.out]) Hdv.out] at this
              exact this
        · have hk3 : (yk == 2) = false := by rw [beq_eq_false_iff_ne]; exact hk2
          have Hk2 := Lib.hid hk2
          clear hk2
          gi_wp2_with fail
          refine round_quiet (C := fun w' => ∃ p : Regrown, w' = grow (redrawn wo p.d) p.os) (by kernel_rfl) (by kernel_rfl) ⟨⟨wo.drawn + 1, #[]⟩, by rw [grow_empty]; rfl⟩ (by kernel_rfl) ?_ ?_
          · rintro ⟨a, w, h⟩
            exact h
          repeat (go_big_quiet_step (fail))
          refine wpQuiet_nil ?_
          intro _ hw'
          obtain ⟨⟨dq, osq⟩, hw''⟩ := hw'
          subst hw''
          have Hbq := Lib.hid (Hbr.out.trans ((below_regrown wo dq osq).mono Hbr.out.size))
          have htr : j = trimN sl (dp e0.key.u) m := by rw [← Htr.out, Hjt.out]; exact (trimN_stop (.inl (by rw [Hyd.out]; exact Hk2.out))).symm
          have hV2 : Below V.heap.size V (grow (redrawn wo dq) osq) := Hb1.out.trans (Hbq.out.mono Hb1.out.size)
          have hown2 : (grow (redrawn wo dq) osq).ownsRow V.heap.size 30 4 (.slice (some ⟨kg, 0, none⟩) m kc) m (flat En.cells sl) := own_below Hown1.out Hbq.out
          have HV2 := Lib.hid hV2
          have Hown2 := Lib.hid hown2
          have Htr := Lib.hid htr
          clear hV2 hown2 htr Hbr
          generalize grow (redrawn wo dq) osq = V2 at *
          have hbox2 : V2.heap[w.heap.size + 1 + 1 + 1]? = some (.cells #[x] 22 (0, 0)) := (HV2.out.block _ (Array.getElem?_eq_some_iff.1 Hbox.out).1).trans Hbox.out
          have hownx := own_below Hown.out HV2.out
          have c0 : V2.cell? ⟨w.heap.size + 1 + 1 + 1, 0, none⟩ = some x := by rw [cell_blk hbox2]; rfl
          have c1 : V2.frozen? ⟨w.heap.size + 1 + 1 + 1, 0, none⟩ = false := frozen_blk hbox2 0
          have hjm : j ≤ m := by have := trimN_le sl (dp e0.key.u) m; have := Htr.out; omega
          have hslj : (sl.take (j)).length = j := by rw [List.length_take, ← Hmm.out]; omega
          have hnews : IsEs V2 (.slice (some ⟨kg, 0, none⟩) (j) kc) (sl.take (j)) := (isSl_own (l := sl) en_len (by rw [← Hmm.out]; exact Hown2.out)).take (j) hjm
          have hnews2 := hnews.news en_len
          have Hnews2 := Lib.hid hnews2
          have Hslj := Lib.hid hslj
          have Hbox2 := Lib.hid hbox2
          have hlt := hownx.lt
          have Hlt := Lib.hid hlt
          have hV2s := HV2.out.size
          have hkpl : (keepTo gs zs dp k).length ≤ 100000 := by omega
          clear hnews hnews2 hslj hbox2 hlt
          have hi0 := Hi0.out
          have hz0 := Hz0.out
          have hz1 := Hz1.out
          have hz2 := Hz2.out
          generalize hq : keepTo gs zs dp k = kp at *
          have Hq := Lib.hid hq
          clear hq
          gi_wp2_with (first | (gi_at_builtin; refine wpListIn_append_own _ rfl (.tmp 48) (.tmp 49) 22 rfl W.heap.size 30 i0 (.agg #[.string ⟨#[]⟩, .int .i64 0, .int .i64 0, .string ⟨#[]⟩]) 4 48 Try.underlying22 hi0 hz0 hz1 hz2 rfl (by decide) _ kp.length _ rfl hownx ⟨kg, 0, none⟩ (j) kc (flat En.cells (sl.take (j))) rfl ?c0 ?c1 ?c2 ?c3 ?c4 ?c5 ?_))
          case c0 => rw [flat_length en_len, Hslj.out]
          case c1 => exact Hnews2.out
          case c2 => exact ens_one _
          case c3 => unfold maxLen; omega
          case c4 => omega
          case c5 => omega
          intro v' V3 hown' hgrow _
          have hob : w.heap.size + 1 + 1 + 1 < V2.heap.size := (Array.getElem?_eq_some_iff.1 Hbox2.out).1
          have hb3 : Below w.heap.size w V3 := (Hb.out.trans (HV2.out.mono Hb.out.size)).grown hgrow (by omega) (fun r hr => by have := Hlt.out r hr; omega)
          have hbx3 : V3.heap[w.heap.size + 1 + 1 + 1]? = some (.cells #[x] 22 (0, 0)) := (hgrow.block _ hob (fun e => by have := Hlt.out _ e.symm; omega)).trans Hbox2.out
          have hkeepb : ∀ (i : Nat) (ob : Obj), i < W.heap.size → V.heap[i]? = some ob → V3.heap[i]? = some ob := fun i ob hi h => by
            have h1 := (Array.getElem?_eq_some_iff.1 h).1
            have h2 := (HV2.out.block i h1).trans h
            exact (hgrow.block i (Array.getElem?_eq_some_iff.1 h2).1 (fun e => by have := Hlt.out _ e.symm; omega)).trans h2
          have kp23 : KeepsOthers V2 V3 := KeepsOthers.of_grownBy hgrow (fun i ob hi ho => by
            rcases hownx.2 with ⟨hx, _⟩ | ⟨g', cap', cur, hx, hgb, hh, _⟩
            · rw [hx] at hi; cases hi
            · rw [hx] at hi; simp [Value.ownBlock] at hi
              subst hi
              rw [hh] at ho
              cases ho; rfl)
          have kpv : KeepsOthers V V3 := (keeps_below HV2.out).trans kp23
          have hnk : keepTo gs zs dp (k + 1) = kp ++ sl.take (j) := by rw [Hnx.out, Hkeep.out, ← Htr.out]
          have hown4 : V3.ownsRow W.heap.size 30 4 v' (keepTo gs zs dp (k + 1)).length (flat En.cells (keepTo gs zs dp (k + 1))) := by
            rw [hnk, List.length_append, Hslj.out, flat_append]; exact hown'
          obtain ⟨nk, hnk2⟩ : ∃ nk, nk = (keepTo gs zs dp (k + 1)).length := ⟨_, rfl⟩
          rw [← hnk2] at hown4
          have Hnk := Lib.hid hnk2
          clear hnk2
          obtain ⟨va, vc, rfl⟩ := own_slice hown4
          have c2 : V3.cell? ⟨w.heap.size + 1 + 1 + 1, 0, none⟩ = some x := by rw [cell_blk hbx3]; rfl
          have c3 : V3.frozen? ⟨w.heap.size + 1 + 1 + 1, 0, none⟩ = false := frozen_blk hbx3 0
          have Hown4 := Lib.hid hown4
          have Hb3 := Lib.hid hb3
          have Hbx3 := Lib.hid hbx3
          have Hkeepb := Lib.hid hkeepb
          have Hkpv := Lib.hid kpv
          clear hown' hown4 hgrow hownx hb3 hbx3 hkeepb kp23 kpv c0 c1 hnk hi0 hz0 hz1 hz2
          gi_wp2
          have hset := fun vv => grown_setCell' V3 (w.heap.size + 1 + 1 + 1) 0 vv
          have hblk : ∀ (vv : Value) (i : Nat) (ob : Obj), i < W.heap.size → i ≠ w.heap.size + 1 + 1 + 1 → V.heap[i]? = some ob → (V3.setCell ⟨w.heap.size + 1 + 1 + 1, 0, none⟩ vv).heap[i]? = some ob := fun vv i ob hi hne h => (Below.heap_setCell _ _ _ _ hne).trans (Hkeepb.out i ob hi h)
          have hbw4 : ∀ vv, Below w.heap.size w (V3.setCell ⟨w.heap.size + 1 + 1 + 1, 0, none⟩ vv) := fun vv => Hb3.out.trans (grown_below (hset vv) (by omega) Hb3.out.size)
          exact ⟨(Hkpv.out.trans (KeepsOthers.setCell _ _ _)).from _, ⟨hblk _ _ _ (by omega) (by omega) Hd.out.1, hbw4 _⟩, ⟨_, by rw [blk_setCell Hbx3.out]; rfl, by rw [← Hnk.out]; exact own_far Hown4.out (hset _) (fun r e => by cases e; omega)⟩, hblk _ _ _ (by omega) (by omega) Hbz.out, hblk _ _ _ (by omega) (by omega) Hbv.out, hblk _ _ _ (by omega) (by omega) Hbl.out, hbw4 _⟩
  case done =>
    rintro D V hD hVs ⟨⟨x, hbox, hown⟩, h3, h4, h5, hb⟩ hK
    have hr : ∀ r, some D = some r → W.heap.size ≤ r ∧ ∃ o : Obj, V.heap[r]? = some o ∧ o.isCells = false := fun r e => by cases e; exact ⟨hD, _, hK, rfl⟩
    have c0 : V.cell? ⟨w.heap.size + 1 + 1 + 1, 0, none⟩ = some x := by rw [cell_blk hbox]; rfl
    have hK0 := Lib.hid hK
    have hr' := Lib.hid hr
    have Hown := Lib.hid hown
    have hWw : w.heap.size ≤ W.heap.size := by omega
    have hDw : w.heap.size ≤ D := by omega
    clear hr hown hWs
    go_wp2
    have hg := grownBy_putObj' V D (.deferred none)
    have hbl : Below w.heap.size w (V.putObj D (.deferred none)) := hb.trans (grown_below hg hDw hb.size)
    refine leave_mark hK0.out ?_ ⟨x, rfl, own_mono (own_kept2 Hown.out hg hr'.out) hWw, hbl⟩
    simp [results, Try.results20, go_sem]
  case stop =>
    rintro D c k V _ _ _ h _
    exact h.elim
end Go.Proofs.Ytkjfjcigmmooiaa.Tithe
