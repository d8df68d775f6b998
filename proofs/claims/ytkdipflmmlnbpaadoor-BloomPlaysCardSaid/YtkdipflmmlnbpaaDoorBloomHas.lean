/- Has. -/
import Derived.Test.YtkdipflmmlnbpaaDoorBloomAdd
namespace Go.Proofs.YtkdipflmmlnbpaaDoor.Tithe
open Go.RowKit Go.Sort Go.Shelf
set_option linter.unusedVariables false
attribute [local go_sem] Oper.semAt_some
theorem and_bit (x r : Nat) (hx : x < 256) : bits BinOp.and IntKind.u8 ((x : Int) / 2 ^ r) 1 = ((x / 2 ^ r % 2 : Nat) : Int) := by
  have e : ((2 : Int) ^ r) = ((2 ^ r : Nat) : Int) := by simp
  have h : x / 2 ^ r < 256 := Nat.lt_of_le_of_lt (Nat.div_le_self _ _) hx
  rw [e, show ((x : Int) / ((2 ^ r : Nat) : Int)) = ((x / 2 ^ r : Nat) : Int) from (Int.natCast_ediv _ _).symm]
  have := u8_and_nat (x / 2 ^ r) 1 h (by omega)
  rw [Nat.and_one_is_mod] at this
  exact this
theorem bit_off (x r : Nat) (hx : x < 256) (h : x.testBit r = false) : (bits BinOp.and IntKind.u8 ((x : Int) / 2 ^ r) 1 == 0) = true := by
  rw [and_bit x r hx]
  rw [Nat.testBit_eq_decide_div_mod_eq] at h
  generalize x / 2 ^ r = y at *
  rcases Nat.mod_two_eq_zero_or_one y with e | e <;> rw [e] at h ⊢ <;> simp at h ⊢
theorem bit_on (x r : Nat) (hx : x < 256) (h : x.testBit r = true) : (bits BinOp.and IntKind.u8 ((x : Int) / 2 ^ r) 1 == 0) = false := by
  rw [and_bit x r hx]
  rw [Nat.testBit_eq_decide_div_mod_eq] at h
  generalize x / 2 ^ r = y at *
  rcases Nat.mod_two_eq_zero_or_one y with e | e <;> rw [e] at h ⊢ <;> simp at h ⊢
theorem blk_setCell {V : World} {b i : Nat} {cs : Array Value} {ty : TypeId} {fr : Nat × Nat} {v : Value} (h : V.heap[b]? = some (.cells cs ty fr)) : (V.setCell ⟨b, i, none⟩ v).heap[b]? = some (.cells (cs.setIfInBounds i v) ty fr) := by
  simp [World.setCell, Array.getElem?_modify, h]
theorem hasL_all {bs : List Nat} {c d n p : Nat} (h : ∀ j, j < p → testB bs (placeAt c d n j) = true) : hasL bs (places c d n p) = true := by
  rw [hasL_iff]
  intro i hi
  unfold places at hi
  simp only [List.mem_map, List.mem_range] at hi
  obtain ⟨j, hj, rfl⟩ := hi
  exact h j hj
theorem hasL_not {bs : List Nat} {c d n p k : Nat} (hk : k < p) (h : testB bs (placeAt c d n k) = false) : hasL bs (places c d n p) = false := by
  cases e : hasL bs (places c d n p) with
  | false => rfl
  | true =>
    rw [hasL_iff] at e
    have := e (placeAt c d n k) (by unfold places; exact List.mem_map.2 ⟨k, List.mem_range.2 hk, rfl⟩)
    rw [h] at this; cases this
theorem has_any (w : World) (ka : Option Addr) (kn kc : Nat) (l : List Nat) (hk : IsBytes w (.slice ka kn kc) l) (ht : TabOk w) (fb gb cap : Nat) (bs : List Nat) (p : Nat) (hf : IsFilter w fb gb cap bs p) :
    Calls Tryd.prog 15 #[.pointer (some ⟨fb, 0, none⟩), .slice ka kn kc] w fun e w' => e = .returned (.bool (hasL bs (keyPlaces l (8 * bs.length) p))) ∧ Below w.heap.size w w' := by
  have HF := Lib.hid hf
  have hlt := hf.lt
  clear hf
  refine calls_of_marks Tryd.func15 rfl ?_
  simp only [Tryd.ntmps15, List.size_toArray, List.length_cons, List.length_nil, Nat.reduceAdd, Nat.reduceSub, Array.replicate_succ, Array.replicate_zero, List.push_toArray, List.append_toArray, List.nil_append, List.cons_append]
  go_wp2
  generalize hW : (w.alloc (.cells #[.pointer (some ⟨fb, 0, none⟩)] 25)).alloc (.cells #[.bool false] 4) = W
  have hWb : Below w.heap.size w W := by rw [← hW]; exact ((Below.refl _ _).alloc (Nat.le_refl _) _).alloc (by simp) _
  have hWs : W.heap.size = w.heap.size + 2 := by rw [← hW]; simp
  have e0 : W.heap[w.heap.size]? = some (.cells #[.pointer (some ⟨fb, 0, none⟩)] 25 (0, 0)) := by rw [← hW]; exact (Below.heap_alloc _ _ _ (by simp)).trans (World.alloc_heap_new w _)
  have e1 : W.heap[w.heap.size + 1]? = some (.cells #[.bool false] 4 (0, 0)) := by
    rw [← hW]; have := World.alloc_heap_new (w.alloc (.cells #[.pointer (some ⟨fb, 0, none⟩)] 25)) (.cells #[.bool false] 4); rwa [World.size_alloc] at this
  clear hW
  have HFW := Lib.hid (HF.out.below (B := 0) hWb)
  have k0 : W.cell? ⟨w.heap.size, 0, none⟩ = some (.pointer (some ⟨fb, 0, none⟩)) := by rw [cell_of_blk e0]; rfl
  have k1 : W.cell? ⟨fb, 1, none⟩ = some (.int .i64 p) := by rw [cell_of_blk HFW.out.blk]; rfl
  have f1 : Hid (IsFilter W.drew fb gb cap bs p) := HFW.out.below (B := 0) ((Below.refl _ _).drew)
  have E0 := Lib.hid e0
  have E1 := Lib.hid e1
  have HWs := Lib.hid hWs
  clear e0 e1 hWs
  go_still_tail 7, (by kernel_rfl)
  still_call ((bits_any fb gb cap bs p _ f1.out).mono fun _ _ h => ⟨h.1, h.2.symm⟩)
  repeat still_step
  refine wpStill_nil ?_
  change wpList _ _ _ _ _ W.drew
  go_wp2_with fail
  refine (probe_facts ka kn kc _ _ W.drew W.heap.size rfl).mono ?_
  rintro e W2 ⟨rfl, hb2, hs2, g0, g1, g2⟩
  go_wp2_with fail
  have hb2' : Below W.heap.size W W2 := ⟨hb2.os, hb2.tape, hb2.output, hb2.size, hb2.block⟩
  have hbw : Below w.heap.size w W2 := hWb.trans (hb2'.mono (by rw [HWs.out]; omega))
  have hx0 : W2.cell? ⟨w.heap.size, 0, none⟩ = some (.pointer (some ⟨fb, 0, none⟩)) := by rw [hb2'.cell (by show w.heap.size < _; rw [HWs.out]; omega)]; exact k0
  have hx1 : W2.heap[w.heap.size + 1]? = some (.cells #[.bool false] 4 (0, 0)) := by rw [hb2'.block _ (by rw [HWs.out]; omega)]; exact E1.out
  have hdat : ProbeDat W.heap.size (.slice ka kn kc) l (8 * bs.length) p W2 := ⟨g0, by rw [g1]; rfl, g2, hk.below hbw, ht.below hbw⟩
  have hm := HF.out.most
  have hpos := HF.out.pos
  have hp30 := HF.out.p30
  clear k0 k1 g0 g1 g2
  refine range_law (gf := 33) (lb := #[.pointer (some ⟨W.heap.size, 0, none⟩), .pointer (some ⟨W.heap.size + 1 + 1, 0, none⟩), .pointer (some ⟨W.heap.size + 1, 0, none⟩)]) rfl (enters_of Tryd.func33 (by kernel_rfl) rfl)
    (probe_iter W.heap.size (.slice ka kn kc) l (8 * bs.length) p (by omega) (by omega) (by omega)) (fun A B h => by subst h; exact KeepsFrom.refl _ _) (probeDat_kept _ _ _ _ _ _) hdat (fun _ => rfl)
    (fun k V => (∀ j, j < k → testB bs (placeAt (keyC l) (keyD l) (8 * bs.length) j) = true) ∧ V.cell? ⟨w.heap.size, 0, none⟩ = some (.pointer (some ⟨fb, 0, none⟩)) ∧ V.heap[w.heap.size + 1]? = some (.cells #[.bool false] 4 (0, 0)) ∧ Below w.heap.size w V)
    (fun c k V => c = .ret ∧ testB bs (placeAt (keyC l) (keyD l) (8 * bs.length) k) = false ∧ V.heap[w.heap.size + 1]? = some (.cells #[.bool false] 4 (0, 0)) ∧ Below w.heap.size w V)
    (fun k V V' row h hg hr => ⟨h.1, cellF_kept h.2.1 hg hr, (blk_kept h.2.2.1 rfl hg hr).trans h.2.2.1, ownFrom_below (β := Unit) (w₀ := w) (B := W2.heap.size) (Nat.le_refl _) (by rw [hs2, HWs.out]; omega) () V V' row h.2.2.2 hg hr⟩)
    (fun c k V V' row h hg hr => ⟨h.1, h.2.1, (blk_kept h.2.2.1 rfl hg hr).trans h.2.2.1, ownFrom_below (β := Unit) (w₀ := w) (B := W2.heap.size) (Nat.le_refl _) (by rw [hs2, HWs.out]; omega) () V V' row h.2.2.2 hg hr⟩)
    (fun k A B _ h e => by subst e; exact h) (fun c k A B _ h e => by subst e; exact h)
    ⟨fun j hj => by omega, hx0, hx1, hbw⟩
    ?a1 ?assign ?body ?done ?stop
  case assign =>
    intro yl k V K hK
    gi_wp2
    exact hK
  case body =>
    rintro yl k V hkp hVs ⟨hall, hx, hr, hb⟩ hd
    have hpl : placeAt (keyC l) (keyD l) (8 * bs.length) k < 8 * bs.length := Nat.mod_lt _ (by omega)
    have hF := HF.out.below (B := 0) hb
    have hb8 := hF.b8
    have v0 : V.cell? ⟨fb, 0, none⟩ = some (.slice (some ⟨gb, 0, none⟩) bs.length cap) := by rw [cell_of_blk hF.blk]; rfl
    have r0 : V.cell? ⟨w.heap.size + 1, 0, none⟩ = some (.bool false) := by rw [cell_of_blk hr]; rfl
    have r1 : V.frozen? ⟨w.heap.size + 1, 0, none⟩ = false := frozen_of_blk hr 0
    have Hnext : Hid (testB bs (placeAt (keyC l) (keyD l) (8 * bs.length) k) = true → ∀ j, j < k + 1 → testB bs (placeAt (keyC l) (keyD l) (8 * bs.length) j) = true) := by
      intro h j hj
      rcases Nat.lt_or_ge j k with q | q
      · exact hall j q
      · obtain rfl : j = k := by omega
        exact h
    have Hall := Lib.hid hall
    have Hd := Lib.hid hd
    have Hb := Lib.hid hb
    have Hr := Lib.hid hr
    clear hall hd hb hr
    generalize hi : placeAt (keyC l) (keyD l) (8 * bs.length) k = i at *
    have HI := Lib.hid hi
    clear hi
    obtain ⟨q, hq, hqn⟩ : ∃ q, i / 8 = q ∧ q < bs.length := ⟨_, rfl, by omega⟩
    obtain ⟨r, er, hr8⟩ : ∃ r, i % 8 = r ∧ r < 8 := ⟨_, rfl, Nat.mod_lt _ (by omega)⟩
    obtain ⟨x, hxe⟩ : ∃ x, bs.getD q 0 = x := ⟨_, rfl⟩
    have hx8 : x < 256 := by rw [← hxe]; exact getD_byte hb8 q
    have v1 : V.cell? ⟨gb, q, none⟩ = some (.int .u8 (x : Nat)) := by
      rw [hF.own.cellAt q (by omega), cellsOfL, List.getElem?_map, List.getElem?_eq_getElem hqn, ← hxe, List.getD_eq_getElem?_getD, List.getElem?_eq_getElem hqn]; rfl
    have htest : testB bs i = x.testBit r := by unfold testB; rw [hq, er, hxe]
    have v1' : V.cell? ⟨gb, i / 8, none⟩ = some (.int .u8 (x : Nat)) := by rw [hq]; exact v1
    have hq' : i / 8 < bs.length := by omega
    have HQ := Lib.hid (And.intro hq (And.intro er hxe))
    have Htest := Lib.hid htest
    clear hq er hxe htest v1 hF
    cases hb : x.testBit r with
    | true =>
      have sB := bit_on x r hx8 hb
      rw [← HQ.out.2.1] at sB
      have Hb' := Lib.hid hb
      clear hb
      gi_wp2
      exact ⟨KeepsFrom.refl _ _, Hd.out, Hnext.out (by rw [Htest.out, Hb'.out]), hx, Hr.out, Hb.out⟩
    | false =>
      have sB := bit_off x r hx8 hb
      rw [← HQ.out.2.1] at sB
      have Hb' := Lib.hid hb
      clear hb
      gi_wp2
      refine ⟨(KeepsOthers.setCell _ _ _).from _, rfl, by rw [HI.out, Htest.out, Hb'.out], ?_, Hb.out.setCell (by show w.heap.size ≤ w.heap.size + 1; omega) _⟩
      rw [blk_setCell Hr.out]; rfl
  case done =>
    rintro D V hD hVs ⟨hall, hx, hr, hb⟩ hK
    have r0 : V.cell? ⟨w.heap.size + 1, 0, none⟩ = some (.bool false) := by rw [cell_of_blk hr]; rfl
    have r1 : V.frozen? ⟨w.heap.size + 1, 0, none⟩ = false := frozen_of_blk hr 0
    have Hall := Lib.hid hall
    have Hb := Lib.hid hb
    have Hr := Lib.hid hr
    clear hall hb hr
    have hKs := Lib.hid hK
    clear hK
    go_wp2
    have hs1 := HWs.out
    have hDne : D ≠ w.heap.size + 1 := by omega
    have hK2 : (V.setCell ⟨w.heap.size + 1, 0, none⟩ (.bool true)).heap[D]? = some (.deferred (some [])) := by rw [Below.heap_setCell _ _ _ _ (by exact hDne)]; exact hKs.out
    have hres := hasL_all Hall.out
    have hbel : Below w.heap.size w ((V.setCell ⟨w.heap.size + 1, 0, none⟩ (.bool true)).putObj D (.deferred none)) :=
      (Hb.out.setCell (p := ⟨w.heap.size + 1, 0, none⟩) (by show w.heap.size ≤ w.heap.size + 1; omega) _).trans (belowK_b (w := w) (Nat.le_refl _) _ D _ _ (by omega) hK2 rfl rfl)
    refine leave_cell (v := .bool true) rfl hK2 rfl (fun _ h => run_loadVar_plain Tryd.underlying4 rfl h) (by rw [cell_of_blk (blk_setCell Hr.out)]; rfl) ⟨?_, hbel⟩
    show Ending.returned (.bool true) = .returned (.bool (hasL bs (places (keyC l) (keyD l) (8 * bs.length) p)))
    rw [hres]
  case stop =>
    rintro D c k V hD hVs hkp ⟨rfl, hf, hr, hb⟩ hK
    have Hf := Lib.hid hf
    have Hr := Lib.hid hr
    have Hb := Lib.hid hb
    have hKs := Lib.hid hK
    clear hf hr hb hK
    go_wp2
    have hs1 := HWs.out
    have hres := hasL_not hkp Hf.out
    have hbel : Below w.heap.size w (V.putObj D (.deferred none)) := Hb.out.trans (belowK_b (w := w) (Nat.le_refl _) _ D _ _ (by omega) hKs.out rfl rfl)
    refine leave_cell (v := .bool false) rfl hKs.out rfl (fun _ h => run_loadVar_plain Tryd.underlying4 rfl h) (by rw [cell_of_blk Hr.out]; rfl) ⟨?_, hbel⟩
    show Ending.returned (.bool false) = .returned (.bool (hasL bs (places (keyC l) (keyD l) (8 * bs.length) p)))
    rw [hres]
end Go.Proofs.YtkdipflmmlnbpaaDoor.Tithe
