/- slices.Clone of refs, Meta.copied: walked. -/
import Derived.Test.YthjjelomlgmllaaLevHas
namespace Go.Proofs.Ythjjelomlgmllaa.Tithe
open Go.RowKit Go.Sort Go.Shelf
set_option linter.unusedVariables false
set_option maxRecDepth 100000
theorem ownsRow_empty' (w : World) (t : TypeId) (size : Nat) : (w.alloc (.cells #[] t)).ownsRow w.heap.size t size (.slice (some ⟨w.heap.size, 0, none⟩) 0 0) 0 [] := by
  refine ⟨by simp, .inr ⟨w.heap.size, 0, #[], rfl, Nat.le_refl _, ?_, Nat.le_refl _, by decide, by simp, by simp⟩⟩
  show (w.heap.push _)[w.heap.size]? = _
  simp
theorem info_partsL {α β γ δ : Type} {f : α → Option β} {g : α → γ} {h : α → δ} {o : Option α} {b : Option β} {c : γ} {d : δ} (hh : o.map (fun i => (f i, g i, h i)) = some (b, c, d)) : ∃ i, o = some i ∧ f i = b ∧ g i = c ∧ h i = d := by
  cases o with
  | none => cases hh
  | some i => injection hh with e; injection e with e1 e2; injection e2 with e2 e3; exact ⟨i, rfl, e1, e2, e3⟩
theorem refInfoL : (Try.prog.info? 87).map (fun i => (i.zero, i.size, i.bytes)) = some (some (.agg #[.int .i64 0, .int .i64 0]), 2, 16) := by kernel_rfl
theorem rfC_one (l : List (Int × Int)) : ∀ u ∈ flat rfC l, u.oneCell' = true := by
  intro u hu
  simp only [flat, List.mem_flatMap] at hu
  obtain ⟨r, -, hr⟩ := hu
  simp only [rfC, List.mem_cons, List.not_mem_nil, or_false] at hr
  rcases hr with rfl | rfl <;> rfl
/-- a row of refs of a call's own -/
abbrev OwnRr (W : World) (base : Nat) (v : Value) (l : List (Int × Int)) : Prop := W.ownsRow base 87 2 v l.length (flat rfC l)
theorem OwnRr.is {W : World} {base : Nat} {v : Value} {l : List (Int × Int)} (h : OwnRr W base v l) : IsRr W v l := isSl_own rfC_len h
set_option maxHeartbeats 800000 in
theorem rclone_any (v : Value) (l : List (Int × Int)) (w : World) (h : IsRr w v l) (hl : l.length ≤ 1000000) : Calls Try.prog 62 #[v] w fun e w' => ∃ v', e = .returned v' ∧ OwnRr w' w.heap.size v' l ∧ Below w.heap.size w w' := by
  obtain ⟨i0, hi0, hz0, hz1, hz2⟩ := info_partsL refInfoL
  obtain ⟨a0, c, rfl, hc, hm, hx⟩ := id h
  cases a0 with
  | none =>
    have hs : ∀ w : World, (binOp .eql 76 (.slice none 0 c) (.slice none 0 0)).run Try.prog w = .ok (.bool true) w := fun _ => rfl
    have hl : l = [] := by
      rcases Nat.eq_zero_or_pos l.length with q | q
      · exact List.eq_nil_of_length_eq_zero q
      · obtain ⟨_, _, e, _⟩ := hx (List.length_pos_iff.1 q); cases e
    subst hl
    clear h hx
    rw [List.length_nil]
    go_enter Try.func62, Try.ntmps62
    go_wp2
    go_ret
    exact ⟨_, rfl, World.ownsRow_nil _ _ _ _, Below.refl _ _⟩
  | some ad =>
    have hs : ∀ w : World, (binOp .eql 76 (.slice (some ad) l.length c) (.slice none 0 0)).run Try.prog w = .ok (.bool false) w := fun _ => rfl
    have h2 : ∀ o, IsRr (w.alloc o) (.slice (some ad) l.length c) l := fun o => h.below ((Below.refl _ _).alloc (Nat.le_refl _) _)
    have H2 := Lib.hid h2
    obtain ⟨n, hn⟩ : ∃ n, n = l.length := ⟨_, rfl⟩
    unfold OwnRr
    rw [← hn] at hs H2 hl ⊢
    have Hn := Lib.hid hn
    clear h h2 hn hx hm hc
    go_enter Try.func62, Try.ntmps62
    go_wp2_with (first | (at_builtin; refine wpList_append_sl rfl (.tmp 5) (.tmp 6) 76 rfl w.heap.size 87 i0 (.agg #[.int .i64 0, .int .i64 0]) 2 16 Try.underlying76 hi0 hz0 hz1 hz2 rfl (by decide) (.slice (some ⟨w.heap.size, 0, none⟩) 0 0) 0 [] rfl (ownsRow_empty' w _ _) rfC_len l n Hn.out (.slice (some ad) n c) rfl (H2.out _) (rfC_one _) ?c1 ?c2 ?c3 ?_))
    case c1 => unfold maxLen; omega
    case c2 => omega
    case c3 => simp
    intro v' w1 hown' hgrow
    have hg : Below w.heap.size w w1 := by
      have hb := (Below.refl w.heap.size w).alloc (Nat.le_refl _) (.cells #[] 87)
      exact hb.grown hgrow hb.size (fun k e => by cases e; exact Nat.le_refl _)
    have Hown := Lib.hid hown'
    clear hown' hgrow
    go_wp2
    go_ret
    exact ⟨_, rfl, Hown.out, hg⟩
theorem mtInfo : (Try.prog.info? 78).map (·.size) = some 9 := by kernel_rfl
set_option maxHeartbeats 1600000 in
theorem mcopied_any (z n : Int) (a b : Ky) (vr : Value) (l : List (Int × Int)) (w : World) (h : IsRr w vr l) (hl : l.length ≤ 1000000) :
    Calls Try.prog 58 #[.agg #[.int .i64 z, .int .i64 n, .string a.u, .int .i64 a.s, .int .i64 a.k, .string b.u, .int .i64 b.s, .int .i64 b.k, vr]] w fun e w' => ∃ v', e = .returned (.agg #[.int .i64 z, .int .i64 n, .string a.u, .int .i64 a.s, .int .i64 a.k, .string b.u, .int .i64 b.s, .int .i64 b.k, v']) ∧ OwnRr w' w.heap.size v' l ∧ Below w.heap.size w w' := by
  obtain ⟨ra, rc, rfl, -, -, -⟩ := id h
  have H := Lib.hid h
  obtain ⟨rn, hrn⟩ : ∃ rn, rn = l.length := ⟨_, rfl⟩
  rw [← hrn] at H ⊢
  clear h hrn
  go_enter Try.func58, Try.ntmps58
  go_wp2_with fail
  have hbW : Below w.heap.size w ((w.alloc (.cells #[.int .i64 z, .int .i64 n, .string a.u, .int .i64 a.s, .int .i64 a.k, .string b.u, .int .i64 b.s, .int .i64 b.k, .slice ra rn rc] 78)).alloc (.cells #[.int .i64 0, .int .i64 0, .string ⟨#[]⟩, .int .i64 0, .int .i64 0, .string ⟨#[]⟩, .int .i64 0, .int .i64 0, .slice none 0 0] 78)) := ((Below.refl _ _).alloc (Nat.le_refl _) _).alloc (by simp) _
  have hk0 := blk_old (blk_of_alloc w (.cells #[.int .i64 z, .int .i64 n, .string a.u, .int .i64 a.s, .int .i64 a.k, .string b.u, .int .i64 b.s, .int .i64 b.k, .slice ra rn rc] 78)) (.cells #[.int .i64 0, .int .i64 0, .string ⟨#[]⟩, .int .i64 0, .int .i64 0, .string ⟨#[]⟩, .int .i64 0, .int .i64 0, .slice none 0 0] 78)
  have hk1 : ((w.alloc (.cells #[.int .i64 z, .int .i64 n, .string a.u, .int .i64 a.s, .int .i64 a.k, .string b.u, .int .i64 b.s, .int .i64 b.k, .slice ra rn rc] 78)).alloc (.cells #[.int .i64 0, .int .i64 0, .string ⟨#[]⟩, .int .i64 0, .int .i64 0, .string ⟨#[]⟩, .int .i64 0, .int .i64 0, .slice none 0 0] 78)).heap[w.heap.size + 1]? = some _ := blk_new (by simp only [World.size_alloc]) _
  have hWs : w.heap.size + 1 + 1 = ((w.alloc (.cells #[.int .i64 z, .int .i64 n, .string a.u, .int .i64 a.s, .int .i64 a.k, .string b.u, .int .i64 b.s, .int .i64 b.k, .slice ra rn rc] 78)).alloc (.cells #[.int .i64 0, .int .i64 0, .string ⟨#[]⟩, .int .i64 0, .int .i64 0, .string ⟨#[]⟩, .int .i64 0, .int .i64 0, .slice none 0 0] 78)).heap.size := by simp only [World.size_alloc]
  have hh := H.out.below hbW
  generalize (w.alloc (.cells #[.int .i64 z, .int .i64 n, .string a.u, .int .i64 a.s, .int .i64 a.k, .string b.u, .int .i64 b.s, .int .i64 b.k, .slice ra rn rc] 78)).alloc (.cells #[.int .i64 0, .int .i64 0, .string ⟨#[]⟩, .int .i64 0, .int .i64 0, .string ⟨#[]⟩, .int .i64 0, .int .i64 0, .slice none 0 0] 78) = W at *
  refine (rclone_any _ l W hh hl).mono ?_
  rintro e w1 ⟨v', rfl, ho, hb⟩
  obtain ⟨va, vc, rfl⟩ := own_slice ho
  have g0 := blk_bels hb hk0
  have g1 := blk_bels hb hk1
  have c0 := (cell_of_blk g0 0).trans (show _ = some (.int .i64 z) from rfl)
  have c1 := (cell_of_blk g0 1).trans (show _ = some (.int .i64 n) from rfl)
  have c2 := (cell_of_blk g0 2).trans (show _ = some (.string a.u) from rfl)
  have c3 := (cell_of_blk g0 3).trans (show _ = some (.int .i64 a.s) from rfl)
  have c4 := (cell_of_blk g0 4).trans (show _ = some (.int .i64 a.k) from rfl)
  have c5 := (cell_of_blk g0 5).trans (show _ = some (.string b.u) from rfl)
  have c6 := (cell_of_blk g0 6).trans (show _ = some (.int .i64 b.s) from rfl)
  have c7 := (cell_of_blk g0 7).trans (show _ = some (.int .i64 b.k) from rfl)
  have c8 := (cell_of_blk g0 8).trans (show _ = some (.slice ra rn rc) from rfl)
  have z0 := fun j => frozen_of_blk g0 j
  have e1 := fun j => cell_of_blk g1 j
  have z1 := fun j => frozen_of_blk g1 j
  have hbw := hbW.trans (hb.mono hbW.size)
  have G1 := Lib.hid g1
  have Ho := Lib.hid ho
  have Hbw := Lib.hid hbw
  have Hws := Lib.hid hWs
  clear hb hk0 hk1 hh hbW g0 g1 ho hbw hWs
  go_wp2
  have hs : w.heap.size < W.heap.size := by rw [← Hws.out]; omega
  have hs1 : w.heap.size + 1 < W.heap.size := by rw [← Hws.out]; omega
  refine bodyPost_ret (v := .agg #[.int .i64 z, .int .i64 n, .string a.u, .int .i64 a.s, .int .i64 a.k, .string b.u, .int .i64 b.s, .int .i64 b.k, .slice va l.length vc]) ?_ rfl ⟨_, rfl, ?_, ?_⟩
  · exact results_cell_row Try.results58 _ _ (w.heap.size + 1) 78 _ (0, 0) _ rfl (set9g rfl ((Below.heap_setCell w1 ⟨w.heap.size, 8, none⟩ _ _ (by simp)).trans G1.out) _ _ _ _ _ _ _ _ _) Try.underlying78 rfl mtInfo
  · refine own_mono ?_ (Nat.le_of_lt hs)
    iterate 9 refine ownsRow_setCell_below (a := ⟨w.heap.size + 1, _, none⟩) ?_ hs1 _
    exact ownsRow_setCell_below (a := ⟨w.heap.size, 8, none⟩) Ho.out hs _
  · iterate 9 refine Below.setCell (p := ⟨w.heap.size + 1, _, none⟩) ?_ (Nat.le_succ _) _
    exact Hbw.out.setCell (p := ⟨w.heap.size, 8, none⟩) (Nat.le_refl _) _
end Go.Proofs.Ythjjelomlgmllaa.Tithe
