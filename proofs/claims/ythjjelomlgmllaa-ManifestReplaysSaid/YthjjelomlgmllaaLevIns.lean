/- slices.Insert of one meta: walked. -/
import Derived.Test.YthjjelomlgmllaaLevDel
import Derived.Lib.Overlaps
import Derived.IntWalk
namespace Go.Proofs.Ythjjelomlgmllaa.Tithe
open Go.RowKit Go.Sort Go.Shelf
set_option linter.unusedVariables false
set_option linter.unusedSimpArgs false
set_option maxRecDepth 100000
theorem ms_len {W : World} {base : Nat} {xa : Option Addr} {n c : Nat} {l : List Mr} (h : OwnMs W base (.slice xa n c) l) : l.length = n := by
  rcases h.1.2 with ⟨e, h0⟩ | ⟨g', cap', cur, e, -⟩
  · injection e with _ e _; rw [h0, e]
  · injection e with _ e _; exact e.symm
/-- what is so where one meta has been put in -/
structure InsOut (w : World) (base : Nat) (x x' : Value) (w2 : World) (rows' : List Mr) : Prop where
  own : OwnMs w2 base x' rows'
  grown : w.grownBy w2 x.ownBlock
  lies : ∀ q, x'.ownBlock = some q → x.ownBlock = some q ∨ w.heap.size ≤ q
/-- at the end -/
theorem mins_end (xa : Option Addr) (n cap : Nat) (l : List Mr) (r : Mr) (b1 : Nat) (w : World) (base : Nat) (h : OwnMs w base (.slice xa n cap) l) (hr : OwnRr w base r.2 r.1.refs) (hb1 : w.heap[b1]? = some (.cells (mrC r).toArray 78 (0, 0))) (hn : n ≤ 1000000) (hb : base ≤ w.heap.size) :
    ∃ ya yc w2, (Builtin.append_ #[58, 58] 58 #[.slice xa n cap, .slice (some ⟨b1, 0, none⟩) 1 1]).run Try.prog w = .ok (.slice ya (n + 1) yc) w2 ∧ Hid (InsOut w base (.slice xa n cap) (.slice ya (n + 1) yc) w2 (l ++ [r])) := by
  obtain ⟨i0, hi0, hz0, hz1, hz2⟩ := info_partsL mtInfo3
  have hln := ms_len h
  subst hln
  obtain ⟨g, yc, w2, hrun, hown, hg, hlies, -⟩ := run_append_lies (P := Try.prog) w 58 58 base 78 i0 (.agg #[.int .i64 0, .int .i64 0, .string ⟨#[]⟩, .int .i64 0, .int .i64 0, .string ⟨#[]⟩, .int .i64 0, .int .i64 0, .slice none 0 0]) 9 104 Try.underlying58 hi0 hz0 hz1 hz2 rfl (by decide)
    (.slice xa l.length cap) l.length (flat mrC l) h.1 ⟨b1, 0, none⟩ 1 1 (mrC r) rfl (fun j u hj => by rw [plain_add', Nat.zero_add, cell_of_blk hb1]; simpa using hj) (mrC_one hr) (by omega) (by unfold maxLen; omega) (by omega) hb _ rfl
  refine ⟨some ⟨g, 0, none⟩, yc, w2, hrun, h.push hr hown hg, hg, fun q hq => ?_⟩
  cases hq
  rcases hlies with h | h
  · exact .inl h
  · exact .inr (by rw [h]; exact Nat.le_refl _)
/-- there is room -/
theorem mins_room (g n cap i : Nat) (l : List Mr) (r : Mr) (b1 : Nat) (w : World) (base : Nat) (h : OwnMs w base (.slice (some ⟨g, 0, none⟩) n cap) l) (hr : OwnRr w base r.2 r.1.refs) (hb1 : w.heap[b1]? = some (.cells (mrC r).toArray 78 (0, 0))) (hne : b1 ≠ g) (hi : i < n) (hn : n ≤ 1000000) (hroom : n + 1 ≤ cap) :
    ∃ w1 w2, (∀ ty dc sc, (Builtin.copy_ #[58, 58] ty #[.slice (some ⟨g, (i + 1) * 9, none⟩) (n - i) dc, .slice (some ⟨g, i * 9, none⟩) (n + 1 - i) sc]).run Try.prog w.drew = .ok (goInt (n - i : Nat)) w1) ∧
      (∀ dc ty, (Builtin.copy_ #[58, 58] ty #[.slice (some ⟨g, i * 9, none⟩) (n + 1 - i) dc, .slice (some ⟨b1, 0, none⟩) 1 1]).run Try.prog w1 = .ok (goInt (1 : Nat)) w2) ∧
      Hid (InsOut w base (.slice (some ⟨g, 0, none⟩) n cap) (.slice (some ⟨g, 0, none⟩) (n + 1) cap) w2 (l.take i ++ r :: l.drop i)) := by
  obtain ⟨i0, hi0, hz0, hz1, hz2⟩ := info_partsL mtInfo3
  have hln := ms_len h
  subst hln
  obtain ⟨cur, hg, hb, hnc, hcm, hcs, htake⟩ := own_blk h.1
  have hF : (flat mrC l).length = l.length * 9 := flat_length mrC_len l
  have hd : ((flat mrC l).drop (i * 9)).length = (l.length - i) * 9 := by rw [List.length_drop, hF]; omega
  have hcl : cur.toList.length = cap * 9 := by rw [Array.length_toList]; exact hcs
  have hp1 : (patch cur.toList ((i + 1) * 9) ((flat mrC l).drop (i * 9))).length = cap * 9 := by rw [patch_len (by rw [hd, hcl]; omega)]; exact hcl
  have hg1 : (w.drew.setRow g (patch cur.toList ((i + 1) * 9) ((flat mrC l).drop (i * 9))).toArray).heap[g]? = some (.cells (patch cur.toList ((i + 1) * 9) ((flat mrC l).drop (i * 9))).toArray 78 (0, 0)) := setRow_blk w.drew g _ hg
  have hb1' : (w.drew.setRow g (patch cur.toList ((i + 1) * 9) ((flat mrC l).drop (i * 9))).toArray).heap[b1]? = some (.cells (mrC r).toArray 78 (0, 0)) := (setRow_other w.drew g b1 _ hne).trans hb1
  have hgr : w.grownBy ((w.drew.setRow g (patch cur.toList ((i + 1) * 9) ((flat mrC l).drop (i * 9))).toArray).setRow g (patch (patch cur.toList ((i + 1) * 9) ((flat mrC l).drop (i * 9))) (i * 9) (mrC r)).toArray) (some g) :=
    grown_trans' (grown_trans' (⟨rfl, rfl, rfl, Nat.le_refl _, fun _ _ _ => rfl⟩ : w.grownBy w.drew (some g)) (setRow_grown _ _ _)) (setRow_grown _ _ _)
  have hg2 := setRow_blk (w.drew.setRow g (patch cur.toList ((i + 1) * 9) ((flat mrC l).drop (i * 9))).toArray) g (patch (patch cur.toList ((i + 1) * 9) ((flat mrC l).drop (i * 9))) (i * 9) (mrC r)).toArray hg1
  refine ⟨w.drew.setRow g (patch cur.toList ((i + 1) * 9) ((flat mrC l).drop (i * 9))).toArray, _, fun ty dc sc => ?_, fun dc ty => ?_, ⟨⟨?_, fun q hq => ?_⟩, hgr, fun q hq => .inl hq⟩⟩
  · have := run_copy_k (P := Try.prog) w.drew 58 58 ty 78 i0 9 Try.underlying58 hi0 hz1 g ((i + 1) * 9) (l.length - i) dc ⟨g, i * 9, none⟩ (l.length + 1 - i) sc cur 78 hg ((flat mrC l).drop (i * 9)) (by rw [hd]; congr 1; simp only [Nat.min_def]; split <;> omega) (fun j u hj => by
      rw [plain_add']
      rw [List.getElem?_drop] at hj
      have := h.1.cells (g := g) rfl _ _ hj
      rw [plain_add', Nat.zero_add] at this
      exact this) (by rw [hd, hcs]; omega) (fun u hu => h.one u (List.mem_of_mem_drop hu))
    rw [show Nat.min (l.length + 1 - i) (l.length - i) = l.length - i by simp only [Nat.min_def]; split <;> omega] at this
    exact this
  · have := run_copy_k (P := Try.prog) (w.drew.setRow g (patch cur.toList ((i + 1) * 9) ((flat mrC l).drop (i * 9))).toArray) 58 58 ty 78 i0 9 Try.underlying58 hi0 hz1 g (i * 9) (l.length + 1 - i) dc ⟨b1, 0, none⟩ 1 1 _ 78 hg1 (mrC r) (by rw [show Nat.min 1 (l.length + 1 - i) = 1 by simp only [Nat.min_def]; split <;> omega]; rfl) (fun j u hj => by rw [plain_add', Nat.zero_add, cell_of_blk hb1']; simpa using hj) (by simp only [List.size_toArray, hp1]; show i * 9 + 9 ≤ _; omega) (mrC_one hr)
    rw [show Nat.min 1 (l.length + 1 - i) = 1 by simp only [Nat.min_def]; split <;> omega] at this
    exact this
  · have hlen : (l.take i ++ r :: l.drop i).length = l.length + 1 := by simp; omega
    rw [hlen]
    refine own_of hg2 hb hroom hcm ?_ ?_
    · simp only [List.size_toArray]
      rw [patch_len (by rw [hp1]; show i * 9 + 9 ≤ _; omega)]; exact hp1
    · simp only
      rw [ins_room htake hF hi rfl (by rw [hcl]; omega), flat_insert mrC_len]
  · have hk := fun q (e : (some g : Option Nat) = some q) => (⟨cur, (0, 0), by cases e; exact hg⟩ : ∃ cur fr, w.heap[q]? = some (.cells cur 78 fr))
    rcases List.mem_append.1 hq with hq | hq
    · exact rr_kept (h.2 q (List.mem_of_mem_take hq)) hgr hk
    · rcases List.mem_cons.1 hq with rfl | hq
      · exact rr_kept hr hgr hk
      · exact rr_kept (h.2 q (List.mem_of_mem_drop hq)) hgr hk
theorem zC_len (k : Nat) : (Builtin.zeroCells (Value.agg #[.int .i64 0, .int .i64 0, .string ⟨#[]⟩, .int .i64 0, .int .i64 0, .string ⟨#[]⟩, .int .i64 0, .int .i64 0, .slice none 0 0]).cells k).size = k * 9 := size_zeroCells _ _
/-- there is no room: in new memory -/
theorem mins_grow (g n cap i : Nat) (l : List Mr) (r : Mr) (b1 : Nat) (w : World) (base : Nat) (h : OwnMs w base (.slice (some ⟨g, 0, none⟩) n cap) l) (hr : OwnRr w base r.2 r.1.refs) (hb1 : w.heap[b1]? = some (.cells (mrC r).toArray 78 (0, 0))) (hi : i < n) (hn : n ≤ 1000000) (hroom : ¬ n + 1 ≤ cap) (hbw : base ≤ w.heap.size) :
    ∃ (K : Nat) (w1 w2 w3 : World), n + 1 ≤ K ∧ K ≤ 9223372036854775807 ∧
      (Builtin.append_ #[58, 3] 58 #[.slice (some ⟨g, 0, none⟩) i cap, .int .i64 ((n : Int) + 1 - (i : Int))]).run Try.prog w = .ok (.slice (some ⟨w.heap.size, 0, none⟩) (n + 1) K) w1 ∧
      (∀ ty, (Builtin.copy_ #[58, 58] ty #[.slice (some ⟨w.heap.size, i * 9, none⟩) (n + 1 - i) (K - i), .slice (some ⟨b1, 0, none⟩) 1 1]).run Try.prog w1 = .ok (goInt (1 : Nat)) w2) ∧
      (∀ ty sc, (Builtin.copy_ #[58, 58] ty #[.slice (some ⟨w.heap.size, (i + 1) * 9, none⟩) (n - i) (K - (i + 1)), .slice (some ⟨g, i * 9, none⟩) (n - i) sc]).run Try.prog w2.drew = .ok (goInt (n - i : Nat)) w3) ∧
      Hid (InsOut w base (.slice (some ⟨g, 0, none⟩) n cap) (.slice (some ⟨w.heap.size, 0, none⟩) (n + 1) K) w3 (l.take i ++ r :: l.drop i)) := by
  obtain ⟨i0, hi0, hz0, hz1, hz2⟩ := info_partsL mtInfo3
  have hln := ms_len h
  subst hln
  obtain ⟨cur, hg, hb, hnc, hcm, hcs, htake⟩ := own_blk h.1
  have hcap : cap = l.length := by omega
  have hF : (flat mrC l).length = l.length * 9 := flat_length mrC_len l
  have hd : ((flat mrC l).drop (i * 9)).length = (l.length - i) * 9 := by rw [List.length_drop, hF]; omega
  have hcellF : ∀ (j : Nat) (u : Value), (flat mrC l)[j]? = some u → w.cell? ⟨g, j, none⟩ = some u := fun j u hj => by
    have := h.1.cells (g := g) rfl _ _ hj
    rwa [plain_add', Nat.zero_add] at this
  have hol : ((flat mrC l).take (i * 9)).length = i * 9 := by rw [List.length_take, hF]; omega
  have hold := run_firstCells_some (P := Try.prog) (w := w.drew) 9 i ⟨g, 0, none⟩ i cap ((flat mrC l).take (i * 9)) hol (fun j v hj => by
    rw [plain_add', Nat.zero_add]
    rw [List.getElem?_take] at hj
    split at hj
    · exact hcellF j v hj
    · cases hj)
  obtain ⟨k, hk⟩ : ∃ k, k = l.length + 1 - i := ⟨_, rfl⟩
  have hik : i + k = l.length + 1 := by omega
  have hnsc := nextslicecap_le (need := i + k) (old := cap) (by omega)
  have happ := Lib.run_append_grow_zeros (P := Try.prog) w 58 3 58 78 i0 _ .i64 .i64 Try.underlying58 Try.underlying3 hi0 hz0 (some ⟨g, 0, none⟩) i cap ((flat mrC l).take (i * 9)) (by rw [hz1]; exact hold) k (by omega) (by omega) (by omega) (by omega) (by rw [hz2]; omega) (by rw [hz2]; omega)
  rw [hik, show ((k : Nat) : Int) = (l.length : Int) + 1 - (i : Int) by omega] at happ
  have hKge := grownCap_ge w (l.length + 1) cap 78
  have hKm := grownCap_le_maxLen w (l.length + 1) cap 78 (by unfold maxLen; omega)
  generalize grownCap w (l.length + 1) cap 78 = K at *
  obtain ⟨L0, hL0⟩ : ∃ L0 : Array Value, L0 = ((flat mrC l).take (i * 9)).toArray ++ Builtin.zeroCells (Value.agg #[.int .i64 0, .int .i64 0, .string ⟨#[]⟩, .int .i64 0, .int .i64 0, .string ⟨#[]⟩, .int .i64 0, .int .i64 0, .slice none 0 0]).cells k ++ Builtin.zeroCells (Value.agg #[.int .i64 0, .int .i64 0, .string ⟨#[]⟩, .int .i64 0, .int .i64 0, .string ⟨#[]⟩, .int .i64 0, .int .i64 0, .slice none 0 0]).cells (K - (l.length + 1)) := ⟨_, rfl⟩
  rw [← hL0] at happ
  have hsz : L0.size = K * 9 := by
    rw [hL0, Array.size_append, Array.size_append, zC_len, zC_len, List.size_toArray, hol]; omega
  have hszl : L0.toList.length = K * 9 := by rw [Array.length_toList]; exact hsz
  have htk : L0.toList.take (i * 9) = (flat mrC l).take (i * 9) := by
    rw [hL0]
    simp only [Array.toList_append, List.append_assoc]
    rw [List.take_append_of_le_length (by rw [hol]; exact Nat.le_refl _), List.take_of_length_le (by rw [hol]; exact Nat.le_refl _)]
  clear hL0
  have hG : (w.drew.alloc (.cells L0 78)).heap[w.heap.size]? = some (.cells L0 78 (0, 0)) := heap_alloc_new w.drew _
  have hp1 : (patch L0.toList (i * 9) (mrC r)).length = K * 9 := by rw [patch_len (by rw [hszl]; show i * 9 + 9 ≤ _; omega)]; exact hszl
  have hG1 := setRow_blk (w.drew.alloc (.cells L0 78)) w.heap.size (patch L0.toList (i * 9) (mrC r)).toArray hG
  have hG2 := setRow_blk (((w.drew.alloc (.cells L0 78)).setRow w.heap.size (patch L0.toList (i * 9) (mrC r)).toArray).drew) w.heap.size (patch (patch L0.toList (i * 9) (mrC r)) ((i + 1) * 9) ((flat mrC l).drop (i * 9))).toArray hG1
  have hbl1 : Below w.heap.size w ((w.drew.alloc (.cells L0 78)).setRow w.heap.size (patch L0.toList (i * 9) (mrC r)).toArray) := below_setRow (((Below.refl w.heap.size w).drew).alloc (Nat.le_refl _) _) (Nat.le_refl _) _
  have hbl2 : Below w.heap.size w ((((w.drew.alloc (.cells L0 78)).setRow w.heap.size (patch L0.toList (i * 9) (mrC r)).toArray).drew).setRow w.heap.size (patch (patch L0.toList (i * 9) (mrC r)) ((i + 1) * 9) ((flat mrC l).drop (i * 9))).toArray) := below_setRow hbl1.drew (Nat.le_refl _) _
  have hglt : g < w.heap.size := blk_lt hg
  have hb1w : (w.drew.alloc (.cells L0 78)).heap[b1]? = some (.cells (mrC r).toArray 78 (0, 0)) := blk_old (w := w.drew) hb1 _
  refine ⟨K, w.drew.alloc (.cells L0 78), (w.drew.alloc (.cells L0 78)).setRow w.heap.size (patch L0.toList (i * 9) (mrC r)).toArray, _, hKge, by unfold maxLen at hKm; omega, happ, fun ty => ?_, fun ty sc => ?_, ⟨⟨?_, fun q hq => ?_⟩, below_grown hbl2 _, fun q hq => .inr (by cases hq; exact Nat.le_refl _)⟩⟩
  · have := run_copy_k (P := Try.prog) (w.drew.alloc (.cells L0 78)) 58 58 ty 78 i0 9 Try.underlying58 hi0 hz1 w.heap.size (i * 9) (l.length + 1 - i) (K - i) ⟨b1, 0, none⟩ 1 1 _ 78 hG (mrC r) (by rw [show Nat.min 1 (l.length + 1 - i) = 1 by simp only [Nat.min_def]; split <;> omega]; rfl) (fun j u hj => by rw [plain_add', Nat.zero_add, cell_of_blk hb1w]; simpa using hj) (by rw [hsz]; show i * 9 + 9 ≤ _; omega) (mrC_one hr)
    rw [show Nat.min 1 (l.length + 1 - i) = 1 by simp only [Nat.min_def]; split <;> omega] at this
    exact this
  · have := run_copy_k (P := Try.prog) (((w.drew.alloc (.cells L0 78)).setRow w.heap.size (patch L0.toList (i * 9) (mrC r)).toArray).drew) 58 58 ty 78 i0 9 Try.underlying58 hi0 hz1 w.heap.size ((i + 1) * 9) (l.length - i) (K - (i + 1)) ⟨g, i * 9, none⟩ (l.length - i) sc _ 78 hG1 ((flat mrC l).drop (i * 9)) (by rw [hd]; congr 1; simp [Nat.min_def]) (fun j u hj => by
      rw [plain_add']
      rw [List.getElem?_drop] at hj
      exact (hbl1.cell (p := ⟨g, i * 9 + j, none⟩) hglt).trans (hcellF _ u hj)) (by rw [List.size_toArray, hp1, hd]; omega) (fun u hu => h.one u (List.mem_of_mem_drop hu))
    rw [show Nat.min (l.length - i) (l.length - i) = l.length - i by simp [Nat.min_def]] at this
    exact this
  · have hlen : (l.take i ++ r :: l.drop i).length = l.length + 1 := by simp; omega
    rw [hlen]
    refine own_of hG2 hbw hKge hKm ?_ ?_
    · simp only [List.size_toArray]
      rw [patch_len (by rw [hp1, hd]; omega)]; exact hp1
    · simp only
      rw [ins_grow htk hF hi rfl (by rw [hszl]; omega), flat_insert mrC_len]
  · rcases List.mem_append.1 hq with hq | hq
    · exact own_below (h.2 q (List.mem_of_mem_take hq)) hbl2
    · rcases List.mem_cons.1 hq with rfl | hq
      · exact own_below hr hbl2
      · exact own_below (h.2 q (List.mem_of_mem_drop hq)) hbl2
theorem mt_sizeOf (w : World) : (Go.sizeOf 78).run Try.prog w = .ok 9 w := by kernel_rfl
theorem shape_blk {w : World} {b : Nat} {cs : Array Value} {t : TypeId} {fr : Nat × Nat} (h : w.heap[b]? = some (.cells cs t fr)) : w.shape? b = some (t, cs.size) := by
  simp [World.shape?, h]
set_option maxHeartbeats 3200000 in
theorem minsert_any (xa : Option Addr) (n cap i : Nat) (l : List Mr) (r : Mr) (b1 : Nat) (w : World) (base : Nat) (h : OwnMs w base (.slice xa n cap) l) (hr : OwnRr w base r.2 r.1.refs) (hb1 : w.heap[b1]? = some (.cells (mrC r).toArray 78 (0, 0))) (hne : ∀ g, xa = some ⟨g, 0, none⟩ → b1 ≠ g) (hi : i ≤ n) (hn : n ≤ 1000000) (hbw : base ≤ w.heap.size) :
    Calls Try.prog 57 #[.slice xa n cap, .int .i64 i, .slice (some ⟨b1, 0, none⟩) 1 1] w fun e w' => ∃ ya yc, e = .returned (.slice ya (n + 1) yc) ∧ InsOut w base (.slice xa n cap) (.slice ya (n + 1) yc) w' (l.take i ++ r :: l.drop i) := by
  have hln := ms_len h
  by_cases hin : i = n
  · have hl2 : l.take i ++ r :: l.drop i = l ++ [r] := by
      rw [hin, ← hln, List.take_length, List.drop_length]
    rw [hl2]
    obtain ⟨ya, yc, w2, happ, hout⟩ := mins_end xa n cap l r b1 w base h hr hb1 hn hbw
    have hcap : xa = none ∧ n = 0 ∧ cap = 0 ∨ ∃ g, xa = some ⟨g, 0, none⟩ ∧ n ≤ cap ∧ cap ≤ maxLen := by
      rcases h.1.2 with ⟨e, h0⟩ | ⟨g', cap', cur, e, -, -, h1, h2, -⟩
      · injection e with e1 e2 e3; exact .inl ⟨e1, e2, e3⟩
      · injection e with e1 e2 e3; subst e1 e2 e3; exact .inr ⟨g', rfl, h1, h2⟩
    subst hin
    clear h hr hb1 hne hl2 hln
    rcases hcap with ⟨rfl, rfl, rfl⟩ | ⟨g, rfl, hnc, hcm⟩
    · go_enter Try.func57, Try.ntmps57
      go_wp2_with (at_builtin; refine wpList_val rfl _ _ (run_append_op (.tmp 23) (.tmp 24) 58 58 rfl rfl rfl happ) ?_)
      go_ret
      exact ⟨ya, yc, rfl, hout.out⟩
    · replace hcm : cap ≤ 9223372036854775807 := by unfold maxLen at hcm; omega
      by_cases hce : cap = i
      · subst hce
        go_enter Try.func57, Try.ntmps57
        go_wp2_with (at_builtin; refine wpList_val rfl _ _ (run_append_op (.tmp 23) (.tmp 24) 58 58 rfl rfl rfl happ) ?_)
        go_ret
        exact ⟨ya, yc, rfl, hout.out⟩
      · go_enter Try.func57, Try.ntmps57
        go_wp2_with (at_builtin; refine wpList_val rfl _ _ (run_append_op (.tmp 23) (.tmp 24) 58 58 rfl rfl rfl happ) ?_)
        go_ret
        exact ⟨ya, yc, rfl, hout.out⟩
  · have hlt : i < n := by omega
    obtain ⟨g, rfl, hnc, hcm⟩ : ∃ g, xa = some ⟨g, 0, none⟩ ∧ n ≤ cap ∧ cap ≤ maxLen := by
      rcases h.1.2 with ⟨e, h0⟩ | ⟨g', cap', cur, e, -, -, h1, h2, -⟩
      · injection e with e1 e2 e3; omega
      · injection e with e1 e2 e3; subst e1 e2 e3; exact ⟨g', rfl, h1, h2⟩
    have hbg := hne g rfl
    replace hcm : cap ≤ 9223372036854775807 := by unfold maxLen at hcm; omega
    have q1 : ((i : Int) == (n : Int)) = false := by simp; omega
    have q2 : (i : Int) ≤ (n : Int) := by omega
    have q3 : ¬ cap = i := by omega
    have q4 : i ≤ cap := by omega
    have q5 : (0 : Int) ≤ (i : Int) + 1 := by omega
    have q6 : ((i : Int) + 1).toNat = i + 1 := by omega
    have q7 : (i : Int) + 1 ≤ (n : Int) + 1 := by omega
    have q8 : i + 1 ≤ n + 1 := by omega
    have q9 : (0 : Int) ≤ (n : Int) + 1 := by omega
    have q10 : ((n : Int) + 1).toNat = n + 1 := by omega
    have q11 : (i : Int) ≤ (n : Int) + 1 := by omega
    have q12 : i ≤ n + 1 := by omega
    by_cases hroom : n + 1 ≤ cap
    · obtain ⟨w1, w2, hc1, hc2, hout⟩ := mins_room g n cap i l r b1 w base h hr hb1 hbg hlt hn hroom
      obtain ⟨cur, hg, -⟩ := own_blk (by have := h.1; rw [hln] at this; exact this)
      have hcs : cur.size ≠ 0 := by
        obtain ⟨cur', hg', -, -, -, hcs', -⟩ := own_blk (by have := h.1; rw [hln] at this; exact this)
        rw [hg] at hg'
        injection hg' with hg'
        injection hg' with hg'
        rw [hg', hcs']; omega
      have hov : ∀ lb cb, (callFunc 80 #[.slice (some ⟨b1, 0, none⟩) 1 1, .slice (some ⟨g, (i + 1) * 9, none⟩) lb cb]).run Try.prog w = .ok (.value (.bool false)) w := fun lb cb => by
        rw [run_callFunc_extern Try.func80 (by kernel_rfl) (by kernel_rfl) (by kernel_rfl) (e := Extern.SlicesOverlaps.overlaps #[58, 58] #[4]) (by kernel_rfl),
          Lib.run_overlaps_apart w 58 4 78 Try.underlying58 9 mt_sizeOf ⟨b1, 0, none⟩ ⟨g, (i + 1) * 9, none⟩ 1 1 lb cb hbg _ _ _ _ (shape_blk hb1) (shape_blk hg) hcs (frozen_of_blk hb1 0) (frozen_of_blk hb1 _)]
        rfl
      have q13 : ¬ cap = i + 1 := by omega
      have q14 : (n : Int) + 1 ≤ (cap : Int) := by omega
      clear h hr hb1 hne hln hcs hg hi
      go_enter Try.func57, Try.ntmps57
      go_wp2_with (simp only [hov])
      have q19 : IntKind.i64.wrap ((i : Int) + 1) = (i : Int) + 1 := IntWalk.i64_in _ (by omega)
      refine still_tailD 8 (by kernel_rfl) (by kernel_rfl) ?_
      simp only [List.take_succ_cons, List.take_zero, List.drop_succ_cons, List.drop_zero]
      repeat still_step
      refine wpStill_nil ?_
      refine wpList_val rfl _ _ (run_copy_op (.tmp 73) (.tmp 76) 58 58 rfl rfl rfl (hc1 _ _ _)) ?_
      clear hov hc1
      go_wp2_with (refine wpList_val rfl _ _ (run_copy_op (.tmp 80) (.tmp 81) 58 58 rfl rfl rfl (hc2 _ _)) ?_)
      go_ret
      exact ⟨_, _, rfl, hout.out⟩
    · obtain ⟨K, w1, w2, w3, hK1, hK2, happ, hc1, hc2, hout⟩ := mins_grow g n cap i l r b1 w base h hr hb1 hlt hn hroom hbw
      have q13 : ¬ K = i := by omega
      have q14 : ¬ K = i + 1 := by omega
      have q15 : i ≤ K := by omega
      have q16 : ¬ (n : Int) + 1 ≤ (cap : Int) := by omega
      have q17 : (cap : Int) < (n : Int) + 1 := by omega
      have q18 : IntKind.i64.wrap ((n : Int) + 1 - (i : Int)) = (n : Int) + 1 - (i : Int) := IntWalk.i64_in _ (by omega)
      clear h hr hb1 hne hln hi
      go_enter Try.func57, Try.ntmps57
      go_wp2_with (first | (at_builtin; refine wpList_val rfl _ _ (run_append_op (.tmp 34) (.tmp 39) 58 3 rfl rfl rfl happ) ?_) | (refine wpList_val rfl _ _ (run_copy_op (.tmp 43) (.tmp 44) 58 58 rfl rfl rfl (hc1 _)) ?_))
      have q19 : IntKind.i64.wrap ((i : Int) + 1) = (i : Int) + 1 := IntWalk.i64_in _ (by omega)
      refine still_tailD 8 (by kernel_rfl) (by kernel_rfl) ?_
      simp only [List.take_succ_cons, List.take_zero, List.drop_succ_cons, List.drop_zero]
      repeat still_step
      refine wpStill_nil ?_
      refine wpList_val rfl _ _ (run_copy_op (.tmp 50) (.tmp 53) 58 58 rfl rfl rfl (hc2 _ _)) ?_
      go_wp2
      go_ret
      exact ⟨_, _, rfl, hout.out⟩
end Go.Proofs.Ythjjelomlgmllaa.Tithe
