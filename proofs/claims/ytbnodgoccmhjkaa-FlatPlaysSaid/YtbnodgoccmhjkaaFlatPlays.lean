/- law21's calls, and the law FlatPlays: walked (printed by mkplays21.py). -/
import Derived.Test.YtbnodgoccmhjkaaFlatStep
import Derived.Test.YtbnodgoccmhjkaaFlatOpen
namespace Go.Proofs.Ytbnodgoccmhjkaa.Tithe
open Go.RowKit Go.Sort Go.Shelf
set_option linter.unusedVariables false
set_option linter.unusedSimpArgs false
set_option maxRecDepth 100000
/-- a call of a play -/
structure Cl where
  kd : Int
  a : Int
  b : Int
  key : ByteArray
  to : ByteArray
  ov : Value
  ops : List Bo
instance : Inhabited Cl := ⟨⟨0, 0, 0, ⟨#[]⟩, ⟨#[]⟩, .slice none 0 0, []⟩⟩
def clC (c : Cl) : List Value := [.int .i64 c.kd, .int .i64 c.a, .int .i64 c.b, .string c.key, .string c.to, c.ov]
theorem clC_len (c : Cl) : (clC c).length = 6 := rfl
def ClIn (W : World) (c : Cl) : Prop := IsOs W c.ov c.ops ∧ (Lit.int .i64 c.a).wf = true ∧ (Lit.int .i64 c.b).wf = true
structure IsCs (W : World) (v : Value) (l : List Cl) : Prop where
  out : IsSl clC 6 W v l
  row : ∀ c ∈ l, ClIn W c
theorem IsCs.below {w w' : World} {v : Value} {l : List Cl} (h : IsCs w v l) (hb : Below w.heap.size w w') : IsCs w' v l := ⟨h.out.below hb, fun c hc => ⟨(h.row c hc).1.below hb, (h.row c hc).2⟩⟩
def ClOk (c : Cl) : Prop := c.key.size ≤ 200 ∧ c.to.size ≤ 200 ∧ c.ops.length ≤ 70 ∧ ∀ x ∈ c.ops, x.u.size ≤ 200 ∧ x.v.size ≤ 500
theorem cl_row {w : World} {b off : Nat} {l : List Cl} (h : ∀ i x, l[i]? = some x → ∀ j y, (clC x)[j]? = some y → w.cell? ⟨b, off + i * 6 + j, none⟩ = some y) {i : Nat} {x : Cl} (hx : l[i]? = some x) :
    w.cell? ⟨b, off + i * 6, none⟩ = some (.int .i64 x.kd) ∧ w.cell? ⟨b, off + i * 6 + 1, none⟩ = some (.int .i64 x.a) ∧ w.cell? ⟨b, off + i * 6 + 2, none⟩ = some (.int .i64 x.b) ∧ w.cell? ⟨b, off + i * 6 + 3, none⟩ = some (.string x.key) ∧ w.cell? ⟨b, off + i * 6 + 4, none⟩ = some (.string x.to) ∧ w.cell? ⟨b, off + i * 6 + 5, none⟩ = some x.ov :=
  ⟨h i x hx 0 _ rfl, h i x hx 1 _ rfl, h i x hx 2 _ rfl, h i x hx 3 _ rfl, h i x hx 4 _ rfl, h i x hx 5 _ rfl⟩
/-- one row in a new array -/
theorem one_ws {W : World} {v : Value} {l : List Bo} (h : IsOs W v l) : IsWs (W.alloc (.cells #[v] 37)) (.slice (some ⟨W.heap.size, 0, none⟩) 1 1) [(v, l)] := by
  have hA : Below W.heap.size W (W.alloc (.cells #[v] 37)) := (Below.refl _ _).alloc (Nat.le_refl _) _
  have hn : (W.alloc (.cells #[v] 37)).heap[W.heap.size]? = some (.cells #[v] 37 (0, 0)) := blk_newF rfl _
  refine ⟨⟨_, 1, rfl, Nat.le_refl _, by unfold maxLen; omega, fun _ => ⟨W.heap.size, 0, rfl, fun i x hi j y hj => ?_⟩⟩, fun r hr => ?_⟩
  · match i, hi with
    | 0, hi =>
      injection hi with hi
      subst hi
      match j, hj with
      | 0, hj =>
        injection hj with hj
        subst hj
        exact (cell_of_blk hn 0).trans rfl
  · obtain rfl := List.mem_singleton.1 hr
    exact h.below hA
def CallsOut (l : List Cl) (e : Ending) : Prop := ∃ q : Bool, e = .returned (.bool q) ∧ (q = true → l.length ≤ 60 ∧ ∀ c ∈ l, ClOk c)
attribute [local go_sem] Oper.semAt_some
set_option maxHeartbeats 6400000 in
theorem calls_any (v : Value) (l : List Cl) (w : World) (h : IsCs w v l) :
    Calls Try.prog 23 #[v] w fun e w' => CallsOut l e ∧ Below w.heap.size w w' := by
  obtain ⟨hsl, hrr⟩ := h
  obtain ⟨a, c, rfl, -, -, -⟩ := id hsl
  obtain ⟨-, hc, hm, hx⟩ := hsl.at
  obtain ⟨n, hn⟩ : ∃ n, n = l.length := ⟨_, rfl⟩
  rw [← hn] at hc hx ⊢
  have Hx := Lib.hid hx
  have Hn := Lib.hid hn
  have Hrr := Lib.hid hrr
  clear hsl hx hn hrr
  go_enter Try.func23, Try.ntmps23
  go_wp2_with fail
  go_loopw [7] (fun iv wr => ∃ k : Nat, k ≤ n ∧ iv = .int .i64 k ∧ (∀ c ∈ l.take k, ClOk c) ∧ Below w.heap.size w wr) (fun iv _ => n - (intOf iv).toNat)
  case atStart => exact ⟨0, Nat.zero_le _, rfl, (fun c hc => by simp at hc), Below.refl _ _⟩
  case round =>
    obtain ⟨wo, rfl⟩ : ∃ wo : World, wo = wr := ⟨_, rfl⟩
    obtain ⟨k, hk, rfl, hall, hb⟩ := hrel
    have Hall := Lib.hid hall
    have Hb := Lib.hid hb
    clear hall hb
    by_cases hkn : k < n
    · obtain ⟨be, off, rfl, hcell⟩ := Hx.out (by omega)
      obtain ⟨x, hxk⟩ : ∃ x, l[k]? = some x := ⟨_, List.getElem?_eq_getElem (by rw [← Hn.out]; exact hkn)⟩
      obtain ⟨e0, e1, e2, e3, e4, e5⟩ := cl_row (w := wo) (fun i x hi j y hj => (Hb.out.cell (block_lt_of_cell (hcell i x hi j y hj))).trans (hcell i x hi j y hj)) hxk
      have hmem := List.mem_of_getElem? hxk
      have hro := (Hrr.out x hmem).1
      have Htk : Hid (ClOk x → ∀ c ∈ l.take (k + 1), ClOk c) := Lib.hid (fun hx c hc => by
        rw [List.take_add_one, hxk] at hc
        rcases List.mem_append.1 hc with q | q
        · exact Hall.out c q
        · have : c = x := by simpa using q
          rw [this]; exact hx)
      obtain ⟨kd, ca, cb, key, to, ov, ops⟩ := x
      dsimp only at e0 e1 e2 e3 e4 e5 hro
      obtain ⟨oa, oc, rfl, -, -, -⟩ := id hro
      obtain ⟨on, hon⟩ : ∃ q, q = ops.length := ⟨_, rfl⟩
      rw [← hon] at e5 hro Htk
      obtain ⟨-, hoc, hom, -⟩ := hro.at
      have Hon := Lib.hid hon
      have hA : Below wo.heap.size wo (wo.alloc (.cells #[.int .i64 kd, .int .i64 ca, .int .i64 cb, .string key, .string to, .slice oa on oc] 64)) := (Below.refl _ _).alloc (Nat.le_refl _) _
      have HS := Lib.hid (blk_of_alloc wo (.cells #[.int .i64 kd, .int .i64 ca, .int .i64 cb, .string key, .string to, .slice oa on oc] 64))
      have HbW := Lib.hid (Hb.out.trans (hA.mono Hb.out.size))
      have HroW := Lib.hid (hro.below HbW.out)
      obtain ⟨sb, hsb⟩ : ∃ o, o = wo.heap.size := ⟨_, rfl⟩
      have Hsb := Lib.hid hsb
      rw [← hsb] at HS
      have hkn2 : (k : Int) < (n : Int) := by omega
      clear hA hsb hcell hxk hmem hro hon
      go_upto_region 4 with fail
      rw [← Hsb.out]
      generalize wo.alloc (.cells #[.int .i64 kd, .int .i64 ca, .int .i64 cb, .string key, .string to, .slice oa on oc] 64) = W at *
      clear Hsb e0 e1 e2 e3 e4 e5
      have f3 := (cell_of_blk HS.out 3).trans (show _ = some (.string key) from rfl)
      have f4 := (cell_of_blk HS.out 4).trans (show _ = some (.string to) from rfl)
      have f5 := (cell_of_blk HS.out 5).trans (show _ = some (.slice oa on oc) from rfl)
      by_cases hbad : 200 < key.size ∨ 200 < to.size
      · go_wp2_with fail
        all_goals first
          | (exfalso; omega)
          | (go_ret; exact ⟨⟨false, rfl, fun h => by cases h⟩, HbW.out⟩)
      · have g1 : decide ((key.size : Int) > 200) = false := decide_eq_false (by omega)
        have g1' : decide ((200 : Int) < (key.size : Int)) = false := decide_eq_false (by omega)
        have g2 : decide ((to.size : Int) > 200) = false := decide_eq_false (by omega)
        have g2' : decide ((200 : Int) < (to.size : Int)) = false := decide_eq_false (by omega)
        have hA2 : Below W.heap.size W (W.alloc (.cells #[.slice oa on oc] 37)) := (Below.refl _ _).alloc (Nat.le_refl _) _
        have Hb2 := Lib.hid (HbW.out.trans (hA2.mono HbW.out.size))
        have Hsm := Lib.hid (small_any _ _ 1 _ (one_ws HroW.out))
        obtain ⟨qb, hqb⟩ : ∃ q, q = smallB [((.slice oa on oc : Value), ops)] 1 := ⟨_, rfl⟩
        rw [← hqb] at Hsm
        have Hqb := Lib.hid hqb
        clear hA2 hqb
        go_wp2_with fail
        refine Hsm.out.mono ?_
        rintro e w3 ⟨rfl, hb3⟩
        have Hb3 := Lib.hid (Hb2.out.trans (hb3.mono Hb2.out.size))
        clear hb3 Hsm g1 g1' g2 g2' f3 f4 f5
        cases qb with
        | false =>
          go_wp2_with fail
          go_ret
          exact ⟨⟨false, rfl, fun h => by cases h⟩, Hb3.out⟩
        | true =>
          have hok := (smallB_facts Hqb.out.symm).2 _ (List.mem_singleton.2 rfl)
          have Hnx := Lib.hid (Htk.out ⟨by dsimp only; omega, by dsimp only; omega, hok.1, hok.2⟩)
          clear hok
          go_wp2_with fail
          go_roundw
          case rel => exact ⟨k + 1, by omega, by go_num, Hnx.out, Hb3.out⟩
          case measure => simp [intOf]; omega
    · obtain rfl : n = k := by omega
      have Hfin : Hid (∀ c ∈ l, ClOk c) := Lib.hid (by have := Hall.out; rwa [Hn.out, List.take_length] at this)
      go_wp2_with fail
      go_ret
      exact ⟨⟨_, rfl, fun h => ⟨by have h1 := of_decide_eq_true h; have h2 := Hn.out; omega, Hfin.out⟩⟩, Hb.out⟩
/-- any call -/
theorem step_any {W : World} {lo mb xb sb sm im ss is_ as_ : Nat} {most : Int} {k : Nat} (h : Both W lo mb xb sb sm im ss is_ as_ most k) (hk60 : k ≤ 60) (kd a b : Int) (key to : ByteArray) (oa : Option Addr) (on oc : Nat) (ops : List Bo) (hov : ∀ X : World, Below lo W X → IsOs X (.slice oa on oc) ops) (hc : ClOk ⟨kd, a, b, key, to, .slice oa on oc, ops⟩) (ha : (Lit.int .i64 a).wf = true) (hb : (Lit.int .i64 b).wf = true) :
    Calls Try.prog 24 #[.pointer (some ⟨mb, 0, none⟩), .pointer (some ⟨xb, 0, none⟩), .pointer (some ⟨sb, 0, none⟩), .agg #[.int .i64 kd, .int .i64 a, .int .i64 b, .string key, .string to, .slice oa on oc]] W (StepOut W lo mb xb sb sm im ss is_ as_ most k) := by
  obtain ⟨base, base2, rm, rx, hd, S, zs, P, zi, L, A, N, T, zt, h⟩ := h
  obtain ⟨hs1, hs2, hs3, hs4⟩ := hc
  have ho := hov W (Below.refl _ _)
  by_cases h0 : kd < 1 ∨ 7 < kd
  · exact step_none h hk60 kd a b key to oa on oc ops ho hs1 hs2 hs3 hs4 ha hb h0
  · have : kd = 1 ∨ kd = 2 ∨ kd = 3 ∨ kd = 4 ∨ kd = 5 ∨ kd = 6 ∨ kd = 7 := by omega
    rcases this with rfl | rfl | rfl | rfl | rfl | rfl | rfl
    · exact step_write h hk60 a b key to oa on oc ops ho hs1 hs2 hs3 hs4 ha hb hov
    · exact step_get h hk60 a b key to oa on oc ops ho hs1 hs2 hs3 hs4 ha hb
    · exact step_scan h hk60 a b key to oa on oc ops ho hs1 hs2 hs3 hs4 ha hb
    · exact step_snap h hk60 a b key to oa on oc ops ho hs1 hs2 hs3 hs4 ha hb
    · exact step_iter h hk60 a b key to oa on oc ops ho hs1 hs2 hs3 hs4 ha hb
    · exact step_move h hk60 a b key to oa on oc ops ho hs1 hs2 hs3 hs4 ha hb
    · exact step_rel h hk60 a b key to oa on oc ops ho hs1 hs2 hs3 hs4 ha hb
set_option maxHeartbeats 6400000 in
theorem flatPlays_walk (most : Int) (v : Value) (l : List Cl) (w : World) (hmo : (Lit.int .i64 most).wf = true) (h : IsCs w v l) :
    Calls Try.prog 6 #[.int .i64 most, v] w fun e w' => e = .returned (.bool true) ∧ Below w.heap.size w w' := by
  clear hmo
  have Hnew := Lib.hid (mnew_any most w)
  have Hca := Lib.hid (fun (A : World) (hA : Below w.heap.size w A) => calls_any v l A (h.below hA))
  obtain ⟨hsl, hrr⟩ := h
  obtain ⟨a, c, rfl, -, -, -⟩ := id hsl
  obtain ⟨-, hc, hm, hx⟩ := hsl.at
  obtain ⟨n, hn⟩ : ∃ n, n = l.length := ⟨_, rfl⟩
  rw [← hn] at hc hx Hca ⊢
  have Hx := Lib.hid hx
  have Hn := Lib.hid hn
  have Hrr := Lib.hid hrr
  clear hsl hx hn hrr
  go_enter Try.func6, Try.ntmps6
  go_wp2_with fail
  refine Hnew.out.mono ?_
  rintro e w1 ⟨rfl, hM, hS, hI, hb1, hs1⟩
  have HM := Lib.hid hM
  have HS := Lib.hid hS
  have HI := Lib.hid hI
  have Hb1 := Lib.hid hb1
  clear hM hS hI hb1 Hnew
  go_wp2_with fail
  refine (Hca.out _ Hb1.out).mono ?_
  rintro e w2 ⟨⟨q, rfl, hq⟩, hb2⟩
  have Hb2 := Lib.hid (Hb1.out.trans (hb2.mono Hb1.out.size))
  have HM2 := Lib.hid (blk_bels hb2 HM.out)
  have HS2 := Lib.hid (blk_bels hb2 HS.out)
  have HI2 := Lib.hid (blk_bels hb2 HI.out)
  have hs2 := hb2.size
  have Hq := Lib.hid hq
  clear hb2 hq HM HS HI Hb1 Hca
  cases q with
  | false =>
    go_wp2_with (go_at_call 8; refine (awake21_any _).mono ?_; rintro e w9 ⟨rfl, hb9⟩; have Hb9 := Lib.hid (Hb2.out.trans (hb9.mono Hb2.out.size)); clear hb9)
    go_ret
    exact ⟨rfl, Hb9.out⟩
  | true =>
    obtain ⟨h60, hok⟩ := Hq.out rfl
    have Hok := Lib.hid hok
    have hn60 : n ≤ 60 := by rw [Hn.out]; exact h60
    clear hok h60 Hq
    obtain ⟨xb, hxb⟩ : ∃ q, q = w2.heap.size := ⟨_, rfl⟩
    obtain ⟨X1, hX1⟩ : ∃ X, X = w2.alloc (.cells #[.slice none 0 0, .int .i64 most] 36) := ⟨_, rfl⟩
    obtain ⟨X2, hX2⟩ : ∃ X, X = X1.alloc (.map #[] 0) := ⟨_, rfl⟩
    obtain ⟨X3, hX3⟩ : ∃ X, X = X2.alloc (.map #[] 0) := ⟨_, rfl⟩
    obtain ⟨X4, hX4⟩ : ∃ X, X = X3.alloc (.map #[] 0) := ⟨_, rfl⟩
    obtain ⟨X5, hX5⟩ : ∃ X, X = X4.alloc (.cells #[.map (some (xb + 1)), .map (some (xb + 2)), .map (some (xb + 3)), .int .i64 0] 62) := ⟨_, rfl⟩
    have z1 : X1.heap.size = xb + 1 := by rw [hX1, World.size_alloc, hxb]
    have z2 : X2.heap.size = xb + 2 := by rw [hX2, World.size_alloc, z1]
    have z3 : X3.heap.size = xb + 3 := by rw [hX3, World.size_alloc, z2]
    have z4 : X4.heap.size = xb + 4 := by rw [hX4, World.size_alloc, z3]
    have z5 : X5.heap.size = xb + 5 := by rw [hX5, World.size_alloc, z4]
    have b5 : Below X4.heap.size X4 X5 := by rw [hX5]; exact (Below.refl _ _).alloc (Nat.le_refl _) _
    have b4 : Below X3.heap.size X3 X5 := Below.trans (by rw [hX4]; exact (Below.refl _ _).alloc (Nat.le_refl _) _) (b5.mono (by omega))
    have b3 : Below X2.heap.size X2 X5 := Below.trans (by rw [hX3]; exact (Below.refl _ _).alloc (Nat.le_refl _) _) (b4.mono (by omega))
    have b2 : Below X1.heap.size X1 X5 := Below.trans (by rw [hX2]; exact (Below.refl _ _).alloc (Nat.le_refl _) _) (b3.mono (by omega))
    have b1 : Below w2.heap.size w2 X5 := Below.trans (by rw [hX1]; exact (Below.refl _ _).alloc (Nat.le_refl _) _) (b2.mono (by omega))
    have n0 : X5.heap[xb]? = some (.cells #[.slice none 0 0, .int .i64 most] 36 (0, 0)) := blk_bels b2 (by rw [hX1]; exact blk_newF hxb.symm _)
    have n1 : X5.heap[xb + 1]? = some (.map #[] 0) := blk_bels b3 (by rw [hX2, ← z1]; exact blk_of_alloc _ _)
    have n2 : X5.heap[xb + 2]? = some (.map #[] 0) := blk_bels b4 (by rw [hX3, ← z2]; exact blk_of_alloc _ _)
    have n3 : X5.heap[xb + 3]? = some (.map #[] 0) := blk_bels b5 (by rw [hX4, ← z3]; exact blk_of_alloc _ _)
    have n4 : X5.heap[xb + 4]? = some (.cells #[.map (some (xb + 1)), .map (some (xb + 2)), .map (some (xb + 3)), .int .i64 ((0 : Nat) : Int)] 62 (0, 0)) := by rw [hX5]; exact blk_newF z4 _
    have HB0 : Hid (Both X5 w.heap.size (w.heap.size + 2) xb (xb + 4) w.heap.size (w.heap.size + 1) (xb + 1) (xb + 2) (xb + 3) most 0) := Lib.hid (by
      refine ⟨xb + 5, xb + 5, [], [], 0, (fun _ => none), 0, (fun _ => none), 0, (fun _ => []), (fun _ => 0), (fun _ => none), (fun _ => none), 0, ?_, ?_, ?_, ⟨by omega, by omega, by omega⟩, ⟨by omega, by omega, by omega⟩, Nat.le_refl _, (fun r hr => by cases hr), Nat.le_refl _, ⟨Nat.le_refl _, Nat.le_refl _, Nat.le_refl _⟩, by omega, (fun h m hh => by cases hh)⟩
      · exact ⟨⟨⟨none, 0, blk_bels b1 HM2.out, OwnRs.nil _ _ _ _⟩, by omega, by omega⟩, OwnsF.of_empty (blk_bels b1 HS2.out), OwnsF.of_empty (blk_bels b1 HI2.out), by omega, Nat.le_refl _, by omega, by omega, (fun q b hq => by cases hq), (fun q n hq => by cases hq), (fun q q' b hq => by cases hq)⟩
      · exact ⟨⟨⟨none, 0, n0, OwnRs.nil _ _ _ _⟩, by omega, by omega⟩, n4, OwnsF.of_empty n1, OwnsF.of_empty n2, OwnsF.of_empty n3, by omega, by omega, by omega, by omega, by omega, by omega, by omega, by omega⟩
      · exact ⟨rfl, (fun q m hq => by cases hq), (fun q => rfl), (fun q b hq => by cases hq)⟩)
    have Hb5 : Hid (Below w.heap.size w X5) := Lib.hid (Hb2.out.trans (b1.mono Hb2.out.size))
    have HX5 : Hid (X5 = ((((w2.alloc (.cells #[.slice none 0 0, .int .i64 most] 36)).alloc (.map #[] 0)).alloc (.map #[] 0)).alloc (.map #[] 0)).alloc (.cells #[.map (some (xb + 1)), .map (some (xb + 2)), .map (some (xb + 3)), .int .i64 0] 62)) := Lib.hid (by rw [hX5, hX4, hX3, hX2, hX1])
    have Hxb := Lib.hid hxb
    clear hX1 hX2 hX3 hX4 hX5 z1 z2 z3 z4 z5 b5 b4 b3 b2 b1 n0 n1 n2 n3 n4 HM2 HS2 HI2 Hb2 hs1 hs2 hxb
    have hmm := @run_makeMap Try.prog
    go_wp2_with fail
    rw [← Hxb.out, ← HX5.out]
    clear HX5 hmm Hxb
    go_loopw [34] (fun iv wr => ∃ k : Nat, k ≤ n ∧ iv = .int .i64 k ∧ Hid (Both wr w.heap.size (w.heap.size + 2) xb (xb + 4) w.heap.size (w.heap.size + 1) (xb + 1) (xb + 2) (xb + 3) most k) ∧ Hid (Below w.heap.size w wr)) (fun iv _ => n - (intOf iv).toNat)
    case atStart => exact ⟨0, Nat.zero_le _, rfl, HB0, Hb5⟩
    case round =>
      clear HB0 Hb5
      obtain ⟨wo, rfl⟩ : ∃ wo : World, wo = wr := ⟨_, rfl⟩
      obtain ⟨k, hk, rfl, HB, Hb⟩ := hrel
      by_cases hkn : k < n
      · obtain ⟨be, off, rfl, hcell⟩ := Hx.out (by omega)
        obtain ⟨x, hxk⟩ : ∃ x, l[k]? = some x := ⟨_, List.getElem?_eq_getElem (by rw [← Hn.out]; exact hkn)⟩
        obtain ⟨e0, e1, e2, e3, e4, e5⟩ := cl_row (w := wo) (fun i x hi j y hj => (Hb.out.cell (block_lt_of_cell (hcell i x hi j y hj))).trans (hcell i x hi j y hj)) hxk
        have hmem := List.mem_of_getElem? hxk
        obtain ⟨hro, hwa, hwb⟩ := Hrr.out x hmem
        have hcl := Hok.out x hmem
        obtain ⟨kd, ca, cb, key, to, ov, ops⟩ := x
        dsimp only at e0 e1 e2 e3 e4 e5 hro hwa hwb
        obtain ⟨oa, oc, rfl, -, -, -⟩ := id hro
        obtain ⟨on, hon⟩ : ∃ q, q = ops.length := ⟨_, rfl⟩
        rw [← hon] at e5 hro hcl
        have hA : Below wo.heap.size wo (wo.alloc (.cells #[.int .i64 kd, .int .i64 ca, .int .i64 cb, .string key, .string to, .slice oa on oc] 64)) := (Below.refl _ _).alloc (Nat.le_refl _) _
        have HSn := Lib.hid (blk_of_alloc wo (.cells #[.int .i64 kd, .int .i64 ca, .int .i64 cb, .string key, .string to, .slice oa on oc] 64))
        have HbW := Lib.hid (Hb.out.trans (hA.mono Hb.out.size))
        have hBW : Both (wo.alloc (.cells #[.int .i64 kd, .int .i64 ca, .int .i64 cb, .string key, .string to, .slice oa on oc] 64)) w.heap.size (w.heap.size + 2) xb (xb + 4) w.heap.size (w.heap.size + 1) (xb + 1) (xb + 2) (xb + 3) most k := by
          obtain ⟨base, base2, rm, rx, hd, S, zs, P, zi, L, A, N, T, zt, h⟩ := HB.out
          exact ⟨base, base2, rm, rx, hd, S, zs, P, zi, L, A, N, T, zt, h.bel hA⟩
        have HBW := Lib.hid hBW
        have Hro := Lib.hid (fun (X : World) (hX : Below w.heap.size w X) => hro.below hX)
        have Hcl := Lib.hid (And.intro hcl (And.intro hwa hwb))
        obtain ⟨bb, hbb⟩ : ∃ o, o = wo.heap.size := ⟨_, rfl⟩
        have Hbb := Lib.hid hbb
        rw [← hbb] at HSn
        have hkn2 : (k : Int) < (n : Int) := by omega
        clear hA hbb hcell hxk hmem hro hon hcl hwa hwb hBW HB Hb
        go_upto_region 9 with fail
        rw [← Hbb.out]
        generalize wo.alloc (.cells #[.int .i64 kd, .int .i64 ca, .int .i64 cb, .string key, .string to, .slice oa on oc] 64) = W at *
        clear Hbb e0 e1 e2 e3 e4 e5
        have hS00 : Below W.heap.size W W.drew := (Below.refl _ _).drew
        have Hstep : Hid (Calls Try.prog 24 #[.pointer (some ⟨w.heap.size + 2, 0, none⟩), .pointer (some ⟨xb, 0, none⟩), .pointer (some ⟨xb + 4, 0, none⟩), .agg #[.int .i64 kd, .int .i64 ca, .int .i64 cb, .string key, .string to, .slice oa on oc]] W.drew (StepOut W.drew w.heap.size (w.heap.size + 2) xb (xb + 4) w.heap.size (w.heap.size + 1) (xb + 1) (xb + 2) (xb + 3) most k)) := Lib.hid (by
          have h9 : Both W.drew w.heap.size (w.heap.size + 2) xb (xb + 4) w.heap.size (w.heap.size + 1) (xb + 1) (xb + 2) (xb + 3) most k := by
            obtain ⟨base, base2, rm, rx, hd, S, zs, P, zi, L, A, N, T, zt, h⟩ := HBW.out
            exact ⟨base, base2, rm, rx, hd, S, zs, P, zi, L, A, N, T, zt, h.bel hS00⟩
          exact step_any h9 (by omega) kd ca cb key to oa on oc ops (fun X hX => Hro.out X ((HbW.out.trans (hS00.mono HbW.out.size)).trans hX)) Hcl.out.1 Hcl.out.2.1 Hcl.out.2.2)
        have c0 := (cell_of_blk HSn.out 0).trans (show _ = some (.int .i64 kd) from rfl)
        have c1 := (cell_of_blk HSn.out 1).trans (show _ = some (.int .i64 ca) from rfl)
        have c2 := (cell_of_blk HSn.out 2).trans (show _ = some (.int .i64 cb) from rfl)
        have c3 := (cell_of_blk HSn.out 3).trans (show _ = some (.string key) from rfl)
        have c4 := (cell_of_blk HSn.out 4).trans (show _ = some (.string to) from rfl)
        have c5 := (cell_of_blk HSn.out 5).trans (show _ = some (.slice oa on oc) from rfl)
        have Hbk := HbW
        clear hS00 HBW HSn Hro Hcl
        refine wp_region_held_drew (S := fun V' => Hid (Below w.heap.size W V')) (by kernel_rfl) (Lib.hid ((Below.refl _ _).drew)) (fun hS0 => ?_)
        refine wpAnyH_take (i := 0) (oi := { dst := some 38, op := Op.move (Operand.tmp 5), type := 25, pos := "law.go:239", after := #[], guard := none }) (v := ?_) rfl (by kernel_rfl) (by kernel_rfl) (by kernel_rfl) (fun _ _ _ h => h) (Or.inl ⟨by rfl, ?hy1⟩) hS0 ?_
        case hy1 => (intro V hSw; (try dsimp only at hSw); clear hSw; go_simp; try with_reducible rfl)
        try simp only [Act.put, List.setIfInBounds_toArray, List.set_cons_zero, List.set_cons_succ]
        refine wpAnyH_take (i := 1) (oi := { dst := some 39, op := Op.move (Operand.tmp 6), type := 26, pos := "law.go:239", after := #[], guard := none }) (v := ?_) rfl (by kernel_rfl) (by kernel_rfl) (by kernel_rfl) (fun _ _ _ h => h) (Or.inl ⟨by rfl, ?hy2⟩) hS0 ?_
        case hy2 => (intro V hSw; (try dsimp only at hSw); clear hSw; go_simp; try with_reducible rfl)
        try simp only [Act.put, List.setIfInBounds_toArray, List.set_cons_zero, List.set_cons_succ]
        refine wpAnyH_take (i := 2) (oi := { dst := some 40, op := Op.move (Operand.tmp 7), type := 59, pos := "law.go:239", after := #[], guard := none }) (v := ?_) rfl (by kernel_rfl) (by kernel_rfl) (by kernel_rfl) (fun _ _ _ h => h) (Or.inl ⟨by rfl, ?hy3⟩) hS0 ?_
        case hy3 => (intro V hSw; (try dsimp only at hSw); clear hSw; go_simp; try with_reducible rfl)
        try simp only [Act.put, List.setIfInBounds_toArray, List.set_cons_zero, List.set_cons_succ]
        refine wpAnyH_ready (rs := [3]) (by kernel_rfl) (by simp) (AllReadyH.cons rfl (fun K hK => ?_) AllReadyH.nil)
        go_simp
        refine hK.out _ _ hS0 (fun _ => ?_)
        clear hK K
        try simp only [Act.put, List.setIfInBounds_toArray, List.set_cons_zero, List.set_cons_succ]
        refine wpAnyH_ready (rs := [4]) (by kernel_rfl) (by simp) (AllReadyH.cons rfl (fun K hK => ?_) AllReadyH.nil)
        go_simp
        refine Hstep.out.mono ?_
        rintro e wv5 ⟨rfl, hbo5, hv5⟩
        have hS5 := Lib.hid (hS0.out.trans hv5)
        obtain ⟨base5, base25, rm5, rx5, hd5, S5, zs5, P5, zi5, L5, A5, N5, T5, zt5, hB5⟩ := id hbo5
        have HB5 := Lib.hid hbo5
        obtain ⟨ax5, cx5, hXB5, -⟩ := hB5.xs.len
        rw [hB5.len] at hXB5
        obtain ⟨am5, cm5, hMB5, -⟩ := hB5.ms.mo.ex
        obtain ⟨rl5, hrl5⟩ : ∃ q, q = rm5.length := ⟨_, rfl⟩
        have hrb5 : rl5 ≤ k + 1 := by rw [hrl5]; exact hB5.rl
        have Mw5 := Lib.hid (mwrites_any wv5 _ most _ _ _ _ _ _ _ hMB5)
        have x05 := (cell_of_blk hXB5 0).trans (show _ = some (.slice ax5 rm5.length cx5) from rfl)
        rw [← hrl5] at Mw5 x05
        clear hbo5 hv5 hB5 hXB5 hMB5 hrl5 c0 c1 c2 c3 c4 c5
        refine hK.out _ _ hS5 (fun _ => ?_)
        clear hK K
        try simp only [Act.put, List.setIfInBounds_toArray, List.set_cons_zero, List.set_cons_succ]
        refine wpAnyH_take (i := 5) (oi := { dst := some 43, op := Op.unOp UnOp.not 4 (Operand.tmp 42), type := 4, pos := "law.go:239", after := #[{ on := 4, ground := Ground.data }], guard := none }) (v := ?_) rfl (by kernel_rfl) (by kernel_rfl) (by kernel_rfl) (fun _ _ _ h => h) (Or.inl ⟨by rfl, ?hy6⟩) hS5 ?_
        case hy6 => (intro V hSw; (try dsimp only at hSw); clear hSw; go_simp; try with_reducible rfl)
        try simp only [Act.put, List.setIfInBounds_toArray, List.set_cons_zero, List.set_cons_succ]
        refine wpAnyH_take (i := 6) (oi := { dst := some 44, op := Op.move (Operand.tmp 43), type := 4, pos := "law.go:239", after := #[{ on := 5, ground := Ground.data }, { on := 4, ground := Ground.chain }], guard := none }) (v := ?_) rfl (by kernel_rfl) (by kernel_rfl) (by kernel_rfl) (fun _ _ _ h => h) (Or.inl ⟨by rfl, ?hy7⟩) hS5 ?_
        case hy7 => (intro V hSw; (try dsimp only at hSw); clear hSw; go_simp; try with_reducible rfl)
        try simp only [Act.put, List.setIfInBounds_toArray, List.set_cons_zero, List.set_cons_succ]
        refine wpAnyH_take (i := 7) (oi := { dst := some 45, op := Op.move (Operand.tmp 5), type := 25, pos := "law.go:239", after := #[{ on := 6, ground := Ground.guard }], guard := some (6, false) }) (v := ?_) rfl (by kernel_rfl) (by kernel_rfl) (by kernel_rfl) (fun _ _ _ h => h) (Or.inl ⟨by rfl, ?hy8⟩) hS5 ?_
        case hy8 => (intro V hSw; (try dsimp only at hSw); clear hSw; go_simp; try with_reducible rfl)
        try simp only [Act.put, List.setIfInBounds_toArray, List.set_cons_zero, List.set_cons_succ]
        refine wpAnyH_take (i := 9) (oi := { dst := some 47, op := Op.move (Operand.tmp 6), type := 26, pos := "law.go:239", after := #[{ on := 6, ground := Ground.guard }], guard := some (6, false) }) (v := ?_) rfl (by kernel_rfl) (by kernel_rfl) (by kernel_rfl) (fun _ _ _ h => h) (Or.inl ⟨by rfl, ?hy9⟩) hS5 ?_
        case hy9 => (intro V hSw; (try dsimp only at hSw); clear hSw; go_simp; try with_reducible rfl)
        try simp only [Act.put, List.setIfInBounds_toArray, List.set_cons_zero, List.set_cons_succ]
        refine wpAnyH_take (i := 10) (oi := { dst := some 48, op := Op.nilCheck (Operand.tmp 47), type := 0, pos := "law.go:239", after := #[{ on := 9, ground := Ground.data }, { on := 6, ground := Ground.guard }], guard := some (6, false) }) (v := ?_) rfl (by kernel_rfl) (by kernel_rfl) (by kernel_rfl) (fun _ _ _ h => h) (Or.inl ⟨by rfl, ?hy10⟩) hS5 ?_
        case hy10 => (intro V hSw; (try dsimp only at hSw); clear hSw; go_simp; try with_reducible rfl)
        try simp only [Act.put, List.setIfInBounds_toArray, List.set_cons_zero, List.set_cons_succ]
        refine wpAnyH_take (i := 11) (oi := { dst := some 49, op := Op.fieldAddr 36 (Operand.tmp 48) 0, type := 0, pos := "law.go:239", after := #[{ on := 10, ground := Ground.data }, { on := 6, ground := Ground.guard }], guard := some (6, false) }) (v := ?_) rfl (by kernel_rfl) (by kernel_rfl) (by kernel_rfl) (fun _ _ _ h => h) (Or.inl ⟨by rfl, ?hy11⟩) hS5 ?_
        case hy11 => (intro V hSw; (try dsimp only at hSw); clear hSw; go_simp; try with_reducible rfl)
        try simp only [Act.put, List.setIfInBounds_toArray, List.set_cons_zero, List.set_cons_succ]
        refine wpAnyH_ready (rs := [8, 12]) (by kernel_rfl) (by simp) (AllReadyH.cons rfl (fun K hK => ?_) (AllReadyH.cons rfl (fun K hK => ?_) AllReadyH.nil))
        · go_simp
          refine Mw5.out.mono ?_
          rintro e wz ⟨rfl, rfl⟩
          refine hK.out _ _ hS5 (fun _ => ?_)
          clear hK K
          try simp only [Act.put, List.setIfInBounds_toArray, List.set_cons_zero, List.set_cons_succ]
          refine wpAnyH_ready (rs := [12]) (by kernel_rfl) (by simp) (AllReadyH.cons rfl (fun K hK => ?_) AllReadyH.nil)
          go_simp
          refine hK.out _ _ hS5 (fun _ => ?_)
          clear hK K
          try simp only [Act.put, List.setIfInBounds_toArray, List.set_cons_zero, List.set_cons_succ]
          refine wpAnyH_take (i := 13) (oi := { dst := some 51, op := Op.call { callee := Callee.builtin Builtin.len, args := #[Operand.tmp 50], argTypes := #[34] }, type := 3, pos := "law.go:239", after := #[{ on := 12, ground := Ground.data }, { on := 6, ground := Ground.guard }], guard := some (6, false) }) (v := ?_) rfl (by kernel_rfl) (by kernel_rfl) (by kernel_rfl) (fun _ _ _ h => h) (Or.inl ⟨by rfl, ?hy13⟩) hS5 ?_
          case hy13 => (intro V hSw; (try dsimp only at hSw); clear hSw; go_simp; try with_reducible rfl)
          try simp only [Act.put, List.setIfInBounds_toArray, List.set_cons_zero, List.set_cons_succ]
          refine wpAnyH_take (i := 14) (oi := { dst := some 52, op := Op.binOp BinOp.neq 3 (Operand.tmp 46) (Operand.tmp 51) 3, type := 4, pos := "law.go:239", after := #[{ on := 8, ground := Ground.data }, { on := 13, ground := Ground.data }, { on := 6, ground := Ground.guard }], guard := some (6, false) }) (v := ?_) rfl (by kernel_rfl) (by kernel_rfl) (by kernel_rfl) (fun _ _ _ h => h) (Or.inl ⟨by rfl, ?hy14⟩) hS5 ?_
          case hy14 => (intro V hSw; (try dsimp only at hSw); clear hSw; go_simp; try with_reducible rfl)
          try simp only [Act.put, List.setIfInBounds_toArray, List.set_cons_zero, List.set_cons_succ]
          refine wpAnyH_take (i := 15) (oi := { dst := some 53, op := Op.pick (Operand.tmp 44) (Operand.const (Value.bool true)) (Operand.tmp 52), type := 4, pos := "law.go:239", after := #[{ on := 6, ground := Ground.data }, { on := 14, ground := Ground.data }], guard := none }) (v := ?_) rfl (by kernel_rfl) (by kernel_rfl) (by kernel_rfl) (fun _ _ _ h => h) (Or.inl ⟨by rfl, ?hy15⟩) hS5 ?_
          case hy15 => (intro V hSw; (try dsimp only at hSw); clear hSw; go_simp; try with_reducible rfl)
          try simp only [Act.put, List.setIfInBounds_toArray, List.set_cons_zero, List.set_cons_succ]
          refine wpAnyH_done (by kernel_rfl) ?_ _
          clear Mw5 x05
          go_wp2_with fail
          go_roundw
          case rel => exact ⟨k + 1, by omega, by go_num, HB5, Lib.hid (Hbk.out.trans hS5.out)⟩
          case measure => simp [intOf]; omega
        · go_simp
          refine hK.out _ _ hS5 (fun _ => ?_)
          clear hK K
          try simp only [Act.put, List.setIfInBounds_toArray, List.set_cons_zero, List.set_cons_succ]
          refine wpAnyH_take (i := 13) (oi := { dst := some 51, op := Op.call { callee := Callee.builtin Builtin.len, args := #[Operand.tmp 50], argTypes := #[34] }, type := 3, pos := "law.go:239", after := #[{ on := 12, ground := Ground.data }, { on := 6, ground := Ground.guard }], guard := some (6, false) }) (v := ?_) rfl (by kernel_rfl) (by kernel_rfl) (by kernel_rfl) (fun _ _ _ h => h) (Or.inl ⟨by rfl, ?hy17⟩) hS5 ?_
          case hy17 => (intro V hSw; (try dsimp only at hSw); clear hSw; go_simp; try with_reducible rfl)
          try simp only [Act.put, List.setIfInBounds_toArray, List.set_cons_zero, List.set_cons_succ]
          refine wpAnyH_ready (rs := [8]) (by kernel_rfl) (by simp) (AllReadyH.cons rfl (fun K hK => ?_) AllReadyH.nil)
          go_simp
          refine Mw5.out.mono ?_
          rintro e wz ⟨rfl, rfl⟩
          refine hK.out _ _ hS5 (fun _ => ?_)
          clear hK K
          try simp only [Act.put, List.setIfInBounds_toArray, List.set_cons_zero, List.set_cons_succ]
          refine wpAnyH_take (i := 14) (oi := { dst := some 52, op := Op.binOp BinOp.neq 3 (Operand.tmp 46) (Operand.tmp 51) 3, type := 4, pos := "law.go:239", after := #[{ on := 8, ground := Ground.data }, { on := 13, ground := Ground.data }, { on := 6, ground := Ground.guard }], guard := some (6, false) }) (v := ?_) rfl (by kernel_rfl) (by kernel_rfl) (by kernel_rfl) (fun _ _ _ h => h) (Or.inl ⟨by rfl, ?hy18⟩) hS5 ?_
          case hy18 => (intro V hSw; (try dsimp only at hSw); clear hSw; go_simp; try with_reducible rfl)
          try simp only [Act.put, List.setIfInBounds_toArray, List.set_cons_zero, List.set_cons_succ]
          refine wpAnyH_take (i := 15) (oi := { dst := some 53, op := Op.pick (Operand.tmp 44) (Operand.const (Value.bool true)) (Operand.tmp 52), type := 4, pos := "law.go:239", after := #[{ on := 6, ground := Ground.data }, { on := 14, ground := Ground.data }], guard := none }) (v := ?_) rfl (by kernel_rfl) (by kernel_rfl) (by kernel_rfl) (fun _ _ _ h => h) (Or.inl ⟨by rfl, ?hy19⟩) hS5 ?_
          case hy19 => (intro V hSw; (try dsimp only at hSw); clear hSw; go_simp; try with_reducible rfl)
          try simp only [Act.put, List.setIfInBounds_toArray, List.set_cons_zero, List.set_cons_succ]
          refine wpAnyH_done (by kernel_rfl) ?_ _
          clear Mw5 x05
          go_wp2_with fail
          go_roundw
          case rel => exact ⟨k + 1, by omega, by go_num, HB5, Lib.hid (Hbk.out.trans hS5.out)⟩
          case measure => simp [intOf]; omega
      · obtain rfl : n = k := by omega
        clear HB
        go_wp2_with (go_at_call 8; refine (awake21_any _).mono ?_; rintro e w9 ⟨rfl, hb9⟩; have Hb9 := Lib.hid (Hb.out.trans (hb9.mono Hb.out.size)); clear hb9)
        go_ret
        exact ⟨rfl, Hb9.out⟩
end Go.Proofs.Ytbnodgoccmhjkaa.Tithe
namespace Go.Proofs.Ytbnodgoccmhjkaa.Tithe
open Go.RowKit Go.ChangeShapes Go.WideShapes Go.ChangeAt
set_option linter.unusedVariables false
set_option maxRecDepth 100000
theorem cl_in {H : Type} {enc : TypeId × Value → H} {w : World} {base : Nat} {sp : Nat → Bool} {held : Bool} (m : Nat) (row : List Value) (y : DataW H × List MemPlace) (h : DataW.trod enc Try.prog w base sp held m 64 row = some y) : ∃ q : Cl, row = clC q ∧ ClIn w q := by
  obtain ⟨xs, n, _, _, hl, hxl, hf⟩ := DataW.trod_struct Try.underlying64 h
  have hl2 : row.length = 6 := hl.trans (by kernel_rfl)
  match row, hl2 with
  | [c0, c1, c2, c3, c4, c5], _ =>
    have f0 := hf 0 _ rfl
    have f1 := hf 1 _ rfl
    have f2 := hf 2 _ rfl
    have f3 := hf 3 _ rfl
    have f4 := hf 4 _ rfl
    have f5 := hf 5 _ rfl
    have hx : xs.length = 6 := hxl
    rw [List.getElem?_eq_getElem (by omega)] at f0 f1 f2 f3 f4 f5
    obtain ⟨z0, e0, -, hw0⟩ := DataW.trod_int Try.underlying3 f0
    obtain ⟨z1, e1, -, hw1⟩ := DataW.trod_int Try.underlying3 f1
    obtain ⟨z2, e2, -, hw2⟩ := DataW.trod_int Try.underlying3 f2
    obtain ⟨z3, e3, -, hw3⟩ := DataW.trod_string Try.underlying9 f3
    obtain ⟨z4, e4, -, hw4⟩ := DataW.trod_string Try.underlying9 f4
    obtain ⟨ov, ops, e5, ho, -⟩ := isSl_cellsQ Bo.cells OkB 3 (by decide) bo_len Try.underlying37 (by kernel_rfl) bo_in f5
    have k0 : Try.prog.cellsOf 3 = 1 := by kernel_rfl
    have k1 : Try.prog.cellsOf 9 = 1 := by kernel_rfl
    have k2 : Try.prog.cellsOf 37 = 1 := by kernel_rfl
    simp [k0, k1, k2] at e0 e1 e2 e3 e4 e5
    subst e0 e1 e2 e3 e4 e5
    exact ⟨⟨z0, z1, z2, z3, z4, _, ops⟩, rfl, ho, hw1, hw2⟩
theorem isCs_in {H : Type} {enc : TypeId × Value → H} {w : World} {base : Nat} {v : Value} {d : DataW H} {p : List MemPlace}
    (hv : Value.okWide Try.prog w .any base 57 v) (h : DataW.Trod enc Try.prog w 0 (fun _ => true) true 57 v d p) : ∃ l : List Cl, IsCs w v l := by
  obtain ⟨l, h1, h2⟩ := isSl_inQ clC (ClIn w) 6 (by decide) clC_len Try.underlying57 (by kernel_rfl) cl_in hv h
  exact ⟨l, h1, h2⟩
end Go.Proofs.Ytbnodgoccmhjkaa.Tithe
