/- ikey.Parse: walked. -/
import Derived.Test.YthjjelomlgmllaaManUser
import Derived.Test.YthjjelomlgmllaaKeyCore
import Derived.Deep.DeepCutAuto
import Derived.Deep.CutBlock
namespace Go.Proofs.Ythjjelomlgmllaa.Tithe
open Go.RowKit Go.Sort Go.Shelf
set_option linter.unusedVariables false
set_option linter.unusedSimpArgs false
set_option maxRecDepth 100000
/-- a byte of a reader, wrong or not -/
def bytR (bad : Bool) (bs : List Nat) : Nat × List Nat × Bool := match bad, bs with
  | true, bs => (0, bs, true)
  | false, [] => (0, [], true)
  | false, x :: t => (x, t, false)
theorem byte_any (w0 w : World) (rb : Nat) (bs : List Nat) (bad : Bool) (h : IsRd w0 w rb bs bad) :
    Calls Try.prog 73 #[.pointer (some ⟨rb, 0, none⟩)] w fun e w' => e = .returned (.int .u8 (bytR bad bs).1) ∧ IsRd w0 w' rb (bytR bad bs).2.1 (bytR bad bs).2.2 ∧ w.grownBy w' (some rb) := by
  match bad, bs, h with
  | true, bs, h => exact byte_none w0 w rb bs true h (.inl rfl)
  | false, [], h => exact byte_none w0 w rb [] false h (.inr rfl)
  | false, x :: t, h => exact byte_some w0 w rb x t h
theorem bytR_lt {bad : Bool} {bs : List Nat} (h : ∀ x ∈ bs, x < 256) : (bytR bad bs).1 < 256 ∧ ∀ x ∈ (bytR bad bs).2.1, x < 256 := by
  match bad, bs, h with
  | true, bs, h => exact ⟨by show 0 < 256; omega, h⟩
  | false, [], h => exact ⟨by show 0 < 256; omega, h⟩
  | false, x :: t, h => exact ⟨h x (List.mem_cons_self ..), fun y hy => h y (List.mem_cons_of_mem _ hy)⟩
/-- some bytes, the highest first -/
def agR : Nat → Nat → Bool → List Nat → Nat × List Nat × Bool
  | 0, acc, bad, bs => (acc, bs, bad)
  | n + 1, acc, bad, bs => agR n (acc * 256 + (bytR bad bs).1) (bytR bad bs).2.2 (bytR bad bs).2.1
/-- the key of bytes -/
def keyR (bs : List Nat) : Ky × Bool :=
  let p := (usr bs).getD ([], 0)
  let a := agR 6 0 false (bs.drop p.2)
  let g := bytR a.2.2 a.2.1
  let k : Ky := ⟨strOf p.1, 1099511627776 - (a.1 : Int), 255 - (g.1 : Int)⟩
  (k, (usr bs).isSome && (!g.2.2 && g.2.1.isEmpty) && okK k)
theorem usr_le : ∀ (n : Nat) (bs : List Nat), bs.length ≤ n → ∀ p, usr bs = some p → p.2 ≤ bs.length ∧ p.1.length ≤ bs.length ∧ ((∀ x ∈ bs, x < 256) → ∀ x ∈ p.1, x < 256)
  | _, [], _, p, h => by simp [usr] at h
  | 0, x :: t, hn, _, _ => by simp at hn
  | n + 1, x :: t, hn, p, h => by
    have hn' : t.length ≤ n := by simpa using hn
    rw [usr.eq_def (x :: t)] at h
    dsimp only at h
    split at h
    · rw [Option.map_eq_some_iff] at h
      obtain ⟨q, hq, rfl⟩ := h
      obtain ⟨h1, h2, h3⟩ := usr_le n t hn' q hq
      refine ⟨by simp; omega, by simp; omega, fun hb y hy => ?_⟩
      rcases List.mem_cons.1 hy with rfl | hy
      · exact hb _ (List.mem_cons_self ..)
      · exact h3 (fun z hz => hb z (List.mem_cons_of_mem _ hz)) y hy
    · split at h
      · cases h
      · rename_i y u
        split at h
        · injection h with h
          subst h
          exact ⟨by simp, by simp, fun _ y hy => by cases hy⟩
        · split at h
          · rw [Option.map_eq_some_iff] at h
            obtain ⟨q, hq, rfl⟩ := h
            have hu : u.length ≤ n := by simp at hn'; omega
            obtain ⟨h1, h2, h3⟩ := usr_le n u hu q hq
            refine ⟨by simp; omega, by simp; omega, fun hb z hz => ?_⟩
            rcases List.mem_cons.1 hz with rfl | hz
            · omega
            · exact h3 (fun a ha => hb a (List.mem_cons_of_mem _ (List.mem_cons_of_mem _ ha))) z hz
          · cases h
/-- rows of bytes stay where only another type's block is written -/
theorem own_for {W W' : World} {base : Nat} {e : TypeId} {size n : Nat} {v : Value} {xs : List Value} (h : W.ownsRow base e size v n xs) (hk : ∀ (b : Nat) (cs : Array Value) (fr : Nat × Nat), W.heap[b]? = some (Obj.cells cs e fr) → W'.heap[b]? = some (Obj.cells cs e fr)) : W'.ownsRow base e size v n xs := by
  refine ⟨h.1, ?_⟩
  rcases h.2 with h0 | ⟨g, cap, cur, hv, hb, hh, r⟩
  · exact .inl h0
  · exact .inr ⟨g, cap, cur, hv, hb, hk g _ _ hh, r⟩
theorem conv_own {w : World} {base : Nat} {v : Value} {l : List Nat} (h : w.ownsRow base 5 1 v l.length (flat byteC l)) (hb : ∀ x ∈ l, x < 256) : (convert 34 9 v).run Try.prog w = .ok (.string (strOf l)) w := by
  have h0 := h
  rcases h.2 with ⟨rfl, hn⟩ | ⟨g, cap, cur, rfl, _⟩
  · obtain rfl : l = [] := List.eq_nil_of_length_eq_zero (by first | exact hn | exact hn.symm | omega)
    have := run_convert_bytes_back (P := Try.prog) w 34 9 5 ⟨0, 0, none⟩ 0 [] Try.underlying34 Try.underlying5 Try.underlying9 (fun j hj => by simp at hj)
    first | rfl | kernel_rfl | exact this
  · exact conv_back w base g cap l h0 hb
theorem own_rd {w0 W W' : World} {rb base : Nat} {cs : List Nat} {bad : Bool} {v : Value} {l : List Nat} (h : W.ownsRow base 5 1 v l.length (flat byteC l)) (hr : IsRd w0 W rb cs bad) (hg : W.grownBy W' (some rb)) : W'.ownsRow base 5 1 v l.length (flat byteC l) := own_for h (fun b cs2 fr hb => by
  refine (hg.block b (blk_lt hb) (fun e => ?_)).trans hb
  injection e with e
  subst e
  obtain ⟨v, hv, -⟩ := hr.ex
  rw [hb] at hv
  injection hv with hv
  injection hv with _ hv
  exact absurd hv (by decide))
theorem own_set3 {V : World} {P base : Nat} {ks : Array Value} {v : Value} {l : List Nat} (h : V.ownsRow base 5 1 v l.length (flat byteC l)) (hp : V.heap[P]? = some (.cells ks 75 (0, 0))) (x y z : Value) : (((V.setCell ⟨P, 0, none⟩ x).setCell ⟨P, 1, none⟩ y).setCell ⟨P, 2, none⟩ z).ownsRow base 5 1 v l.length (flat byteC l) := own_for h (fun b cs fr hb => by
  have hne : b ≠ P := fun e => by
    subst e
    rw [hp] at hb
    injection hb with hb
    injection hb with _ hb
    exact absurd hb (by decide)
  exact (Below.heap_setCell _ ⟨P, 2, none⟩ z b hne).trans ((Below.heap_setCell _ ⟨P, 1, none⟩ y b hne).trans ((Below.heap_setCell _ ⟨P, 0, none⟩ x b hne).trans hb)))
theorem key3 {w0 V W : World} {rb kb P : Nat} {cs : List Nat} {bad : Bool} {o : Obj} {a0 a1 a2 : Value} (hp : V.heap[P]? = some (.cells #[a0, a1, a2] 75 (0, 0))) (rd : IsRd w0 V rb cs bad) (hk : V.heap[kb]? = some o) (bl : Below W.heap.size W V) (h1 : rb < P) (h2 : kb < rb) (h3 : W.heap.size ≤ rb) (x y z : Value) :
    (((V.setCell ⟨P, 0, none⟩ x).setCell ⟨P, 1, none⟩ y).setCell ⟨P, 2, none⟩ z).heap[P]? = some (.cells #[x, y, z] 75 (0, 0)) ∧ IsRd w0 (((V.setCell ⟨P, 0, none⟩ x).setCell ⟨P, 1, none⟩ y).setCell ⟨P, 2, none⟩ z) rb cs bad ∧ (((V.setCell ⟨P, 0, none⟩ x).setCell ⟨P, 1, none⟩ y).setCell ⟨P, 2, none⟩ z).heap[kb]? = some o ∧ Below W.heap.size W (((V.setCell ⟨P, 0, none⟩ x).setCell ⟨P, 1, none⟩ y).setCell ⟨P, 2, none⟩ z) := by
  have hne : kb ≠ P := by omega
  have hne2 : rb ≠ P := by omega
  have hw : w0.heap.size ≤ P := by have := rd.old; omega
  have hW : W.heap.size ≤ P := by omega
  refine ⟨?_, ((rd.other (grown_setCellR _ _ _ _) hne2 hw).other (grown_setCellR _ _ _ _) hne2 hw).other (grown_setCellR _ _ _ _) hne2 hw, (Below.heap_setCell _ ⟨P, 2, none⟩ z kb hne).trans ((Below.heap_setCell _ ⟨P, 1, none⟩ y kb hne).trans ((Below.heap_setCell _ ⟨P, 0, none⟩ x kb hne).trans hk)), ?_⟩
  · rw [blk_setCellR (blk_setCellR (blk_setCellR hp))]; rfl
  · exact Below.setCell (p := ⟨P, 2, none⟩) (Below.setCell (p := ⟨P, 1, none⟩) (Below.setCell (p := ⟨P, 0, none⟩) bl hW _) hW _) hW _
theorem or256 (acc x : Nat) (ha : acc < 2 ^ 40) (hx : x < 256) : bits BinOp.or IntKind.i64 (wrap64 ((acc : Int) * 256)) (x : Int) = ((acc * 256 + x : Nat) : Int) := by
  have e : wrap64 ((acc : Int) * 256) = ((256 * acc : Nat) : Int) := by unfold wrap64; omega
  have h4 : 256 * acc ||| x = 256 * acc + x := (Nat.two_pow_add_eq_or_of_lt (i := 8) hx acc).symm
  rw [e]
  show IntKind.i64.wrap ((BitVec.ofInt 64 ((256 * acc : Nat) : Int) ||| BitVec.ofInt 64 (x : Int)).toNat : Int) = _
  rw [BitVec.toNat_or, ofInt_u64 _ (by omega), ofInt_u64 x (by omega), h4, Nat.mul_comm]
  exact Lib.wrap_i64_small _ (by omega)
theorem set3 {V : World} {b : Nat} {t : TypeId} {x y z : Value} (h : V.heap[b]? = some (.cells #[x, y, z] t (0, 0))) (x' y' z' : Value) : (((V.setCell ⟨b, 0, none⟩ x').setCell ⟨b, 1, none⟩ y').setCell ⟨b, 2, none⟩ z').heap[b]? = some (.cells #[x', y', z'] t (0, 0)) := by
  rw [blk_setCellR (blk_setCellR (blk_setCellR h))]; rfl
theorem set3_below {w V : World} (hb : Below w.heap.size w V) (x' y' z' : Value) : Below w.heap.size w (((V.setCell ⟨w.heap.size, 0, none⟩ x').setCell ⟨w.heap.size, 1, none⟩ y').setCell ⟨w.heap.size, 2, none⟩ z') := by
  have h1 := hb.trans (grown_belowR (grown_setCellR V w.heap.size 0 x') (Nat.le_refl _) hb.size)
  have h2 := h1.trans (grown_belowR (grown_setCellR _ w.heap.size 1 y') (Nat.le_refl _) h1.size)
  exact h2.trans (grown_belowR (grown_setCellR _ w.heap.size 2 z') (Nat.le_refl _) h2.size)
/-- what ikey.Parse answers -/
def keyE (bs : List Nat) : Ending := if (keyR bs).2 then .returned (.tuple #[.agg (keyR bs).1.cells.toArray, .int .i64 0]) else .returned (.tuple #[.agg #[.string ⟨#[]⟩, .int .i64 0, .int .i64 0], .int .i64 30])
theorem keyE_yes {bs : List Nat} (h : (keyR bs).2 = true) : keyE bs = .returned (.tuple #[.agg (keyR bs).1.cells.toArray, .int .i64 0]) := by unfold keyE; rw [if_pos h]
theorem keyE_no {bs : List Nat} (h : (keyR bs).2 = false) : keyE bs = .returned (.tuple #[.agg #[.string ⟨#[]⟩, .int .i64 0, .int .i64 0], .int .i64 30]) := by unfold keyE; rw [h]; rfl
attribute [local go_sem] Oper.semAt_some
set_option maxHeartbeats 6400000 in
theorem kparse_any (v : Value) (bs : List Nat) (w : World) (h : IsBs w v bs) (hb : ∀ x ∈ bs, x < 256) (hl : bs.length ≤ 100000) :
    Calls Try.prog 75 #[v] w fun e w' => e = keyE bs ∧ Below w.heap.size w w' := by
  obtain ⟨kb, hkb⟩ : ∃ q, q = w.heap.size := ⟨_, rfl⟩
  have hA : Below w.heap.size w (w.alloc (.cells #[.string ⟨#[]⟩, .int .i64 0, .int .i64 0] 75)) := (Below.refl _ _).alloc (Nat.le_refl _) _
  have HK := Lib.hid (blk_of_alloc w (.cells #[.string ⟨#[]⟩, .int .i64 0, .int .i64 0] 75))
  have Hus := Lib.hid (user_any v bs _ (h.below hA) hb hl)
  have HA := Lib.hid hA
  have H1 := Lib.hid (h.below hA)
  have Hkb := Lib.hid hkb
  have Hbb := Lib.hid hb
  obtain ⟨a, c, rfl, -, -, -⟩ := id h
  obtain ⟨n, hn⟩ : ∃ q, q = bs.length := ⟨_, rfl⟩
  rw [← hn] at Hus H1 hl ⊢
  have Hn := Lib.hid hn
  rw [← hkb] at HK
  clear hA h hb hn hkb
  go_enter Try.func75, Try.ntmps75
  go_wp2_with fail
  rw [← Hkb.out]
  generalize w.alloc (.cells #[.string ⟨#[]⟩, .int .i64 0, .int .i64 0] 75) = W at *
  refine Hus.out.mono ?_
  intro e w2 hu
  have hu2 : ∃ uv m ok u, e = .returned (.tuple #[uv, .int .i64 (m : Nat), .bool ok]) ∧ OwnBs w2 W.heap.size uv u ∧ Below W.heap.size W w2 ∧ (usr bs).getD ([], 0) = (u, m) ∧ (usr bs).isSome = ok ∧ m ≤ n ∧ u.length ≤ n ∧ ∀ x ∈ u, x < 256 := by
    unfold UsrOut at hu
    cases hq : usr bs with
    | none =>
      rw [hq] at hu
      exact ⟨_, 0, false, [], hu.1, World.ownsRow_nil _ _ _ _, hu.2, rfl, rfl, Nat.zero_le _, Nat.zero_le _, fun x hx => by cases hx⟩
    | some p =>
      rw [hq] at hu
      obtain ⟨uv, h1, h2, h3⟩ := hu
      obtain ⟨l1, l2, l3⟩ := usr_le _ bs (Nat.le_refl _) p hq
      exact ⟨uv, p.2, true, p.1, h1, h2, h3, rfl, rfl, by rw [Hn.out]; exact l1, by rw [Hn.out]; exact l2, l3 Hbb.out⟩
  clear hu
  obtain ⟨uv, m, ok, u, rfl, hown, hb2, hgd, his, hmn, hul, hub⟩ := hu2
  have hbs2 := H1.out.below hb2
  have HK2 := Lib.hid (blk_bels hb2 HK.out)
  have HKW := HK
  have Hown := Lib.hid hown
  have HW2 := Lib.hid hb2
  have Hgd := Lib.hid hgd
  have His := Lib.hid his
  have Hub := Lib.hid hub
  obtain ⟨ua, uc, rfl⟩ := own_slice hown
  obtain ⟨-, hcn, hcm, hx⟩ := hbs2.at
  -- the rest of the bytes
  have hd1 : ¬ c = m → IsBs w2 (.slice (a.map fun x => x.add m) (n - m) (c - m)) (bs.drop m) := by
    intro hne
    by_cases q : n = m
    · rw [List.drop_of_length_le (by rw [← Hn.out]; omega), q, Nat.sub_self]
      exact isSl_nil _ _ _ _ _ (by unfold maxLen; omega)
    · obtain ⟨b, off, rfl, -⟩ := hx (by omega)
      have := hbs2.drop m hmn (c - m) rfl
      rw [Nat.mul_one] at this
      rw [Option.map_some, plain_add']
      exact this
  have hd2 : c = m → IsBs w2 (.slice a (n - m) 0) (bs.drop m) := by
    intro he
    have q : n = m := by omega
    rw [List.drop_of_length_le (by rw [← Hn.out]; omega), q, Nat.sub_self]
    exact isSl_nil _ _ _ _ _ (by unfold maxLen; omega)
  have Hnr : Hid (∀ (a2 : Option Addr) (c2 : Nat), IsBs w2 (.slice a2 (n - m) c2) (bs.drop m) → Calls Try.prog 41 #[.slice a2 (n - m) c2] w2 fun e w' => ∃ w0 rb, e = .returned (.pointer (some ⟨rb, 0, none⟩)) ∧ IsRd w0 w' rb (bs.drop m) false ∧ w2.heap.size ≤ rb ∧ Below w2.heap.size w2 w') := Lib.hid (fun a2 c2 h2 => newreader_bs _ _ w2 h2 (by rw [List.length_drop, ← Hn.out]; omega))
  have Hd1 := Lib.hid hd1
  have Hd2 := Lib.hid hd2
  have hcm2 : m ≤ c := by omega
  clear hown hb2 hgd his hub hbs2 hx hd1 hd2 Hus HK H1
  go_wp2_with fail
  all_goals refine (Hnr.out _ _ (by first | exact Hd1.out (by assumption) | exact Hd2.out (by assumption))).mono ?_
  all_goals
    rintro e w3 ⟨w0, rb, rfl, hrd, hrb, hb3⟩
    have Hrd := Lib.hid hrd
    have HK3 := Lib.hid (blk_bels hb3 HK2.out)
    have Hown3 := Lib.hid (own_below Hown.out hb3)
    have HW3 := Lib.hid (HW2.out.trans (hb3.mono HW2.out.size))
    have HkR : Hid (kb < rb ∧ W.heap.size ≤ rb ∧ kb < W.heap.size) := Lib.hid ⟨by have := blk_lt HKW.out; have := HW2.out.size; omega, by have := HW2.out.size; omega, blk_lt HKW.out⟩
    have HR3 := Lib.hid hrd
    have Hdb : Hid (∀ x ∈ bs.drop m, x < 256) := Lib.hid (fun x hx => Hbb.out x (List.mem_of_mem_drop hx))
    clear hrd hrb hb3 Hnr Hd1 Hd2 HK2 Hown HW2 HKW
    go_wp2_with fail
    go_loopw [8, 20] (fun av iv wr => ∃ (i acc : Nat) (cs : List Nat) (bad : Bool), i ≤ 6 ∧ iv = .int .i64 i ∧ av = .int .i64 acc ∧ acc < 2 ^ (8 * i) ∧ (∀ x ∈ cs, x < 256) ∧ agR 6 0 false (bs.drop m) = agR (6 - i) acc bad cs ∧ Hid (IsRd w0 wr rb cs bad) ∧ Hid (w3.grownBy wr (some rb))) (fun _ iv _ => 6 - (intOf iv).toNat)
    case atStart => exact ⟨0, 0, bs.drop m, false, by omega, rfl, rfl, by decide, Hdb.out, rfl, Hrd, Lib.hid (World.grownBy.refl _ _)⟩
    case round =>
      clear Hrd
      obtain ⟨wo, rfl⟩ : ∃ wo : World, wo = wr := ⟨_, rfl⟩
      obtain ⟨i, acc, cs, bad, hi, rfl, rfl, hacc, hcs, hag, Hrd, Hg⟩ := hrel
      have Hag := Lib.hid hag
      have Hacc := Lib.hid hacc
      have Hcs := Lib.hid hcs
      clear hag hacc hcs
      by_cases hi6 : i < 6
      · have Hby := Lib.hid (byte_any w0 wo rb cs bad Hrd.out)
        obtain ⟨⟨x, cs2, b2⟩, hp⟩ : ∃ p, p = bytR bad cs := ⟨_, rfl⟩
        obtain ⟨hx1, hx2⟩ := bytR_lt (bad := bad) Hcs.out
        rw [← hp] at Hby hx1 hx2
        dsimp only at Hby hx1 hx2
        have Hp := Lib.hid hp
        have Hx2 := Lib.hid hx2
        clear hp hx2
        go_wp2_with fail
        refine Hby.out.mono ?_
        rintro e w4 ⟨rfl, h4, hg4⟩
        have H4 := Lib.hid h4
        have Hg4 := Lib.hid (Hg.out.trans hg4)
        clear h4 hg4 Hby
        have ha40 : acc < 2 ^ 40 := Nat.lt_of_lt_of_le Hacc.out (Nat.pow_le_pow_right (by omega) (by omega))
        have hor := or256 acc x ha40 hx1
        have Hnx : Hid (acc * 256 + x < 2 ^ (8 * (i + 1)) ∧ agR 6 0 false (bs.drop m) = agR (6 - (i + 1)) (acc * 256 + x) b2 cs2) := Lib.hid (by
          have e : 2 ^ (8 * (i + 1)) = 2 ^ (8 * i) * 256 := by rw [Nat.mul_add, Nat.mul_one, Nat.pow_add]
          refine ⟨by have := Hacc.out; rw [e]; omega, ?_⟩
          rw [Hag.out, show 6 - i = (6 - (i + 1)) + 1 by omega]
          show agR _ (acc * 256 + (bytR bad cs).1) (bytR bad cs).2.2 (bytR bad cs).2.1 = _
          rw [← Hp.out])
        clear ha40
        go_wp2_with fail
        go_roundw
        case rel => exact ⟨i + 1, acc * 256 + x, cs2, b2, by omega, by go_num, by go_num, Hnx.out.1, Hx2.out, Hnx.out.2, H4, Hg4⟩
        case measure => simp [intOf]; omega
      · obtain rfl : i = 6 := by omega
        obtain ⟨⟨x, cs2, b2⟩, hp⟩ : ∃ p, p = bytR bad cs := ⟨_, rfl⟩
        obtain ⟨hx1, hx2⟩ := bytR_lt (bad := bad) Hcs.out
        rw [← hp] at hx1 hx2
        dsimp only at hx1 hx2
        have Hp := Lib.hid hp
        have Hby : Hid (∀ X : World, IsRd w0 X rb cs bad → Calls Try.prog 73 #[.pointer (some ⟨rb, 0, none⟩)] X fun e w' => e = .returned (.int .u8 x) ∧ IsRd w0 w' rb cs2 b2 ∧ X.grownBy w' (some rb)) := Lib.hid (fun X hX => by
          have := byte_any w0 X rb cs bad hX
          rw [← hp] at this
          exact this)
        have hacc48 : acc < 281474976710656 := Hacc.out
        have hw1 : IntKind.i64.wrap (1099511627776 - (acc : Int)) = 1099511627776 - (acc : Int) := IntWalk.i64_in _ (by omega)
        have hw2 : IntKind.i64.wrap (x : Int) = (x : Int) := IntWalk.i64_in _ (by omega)
        have hw3 : IntKind.i64.wrap (255 - (x : Int)) = 255 - (x : Int) := IntWalk.i64_in _ (by omega)
        have HbO := Lib.hid (HW3.out.trans (grown_belowR Hg.out HkR.out.2.1 HW3.out.size))
        have HoO := Lib.hid (own_rd Hown3.out HR3.out Hg.out)
        have HkO := Lib.hid ((Hg.out.block kb (blk_lt HK3.out) (fun e => by injection e with e; have := HkR.out.1; omega)).trans HK3.out)
        clear hp hx2 Hown3 HK3 HW3 HR3 Hg Hdb
        go_upto_region 8 with fail
        go_cut [9] (fun pv wc => ∃ P, pv = .pointer (some ⟨P, 0, none⟩) ∧ wc.heap[P]? = some (.cells #[.string (strOf u), .int .i64 (1099511627776 - (acc : Int)), .int .i64 (255 - (x : Int))] 75 (0, 0)) ∧ IsRd w0 wc rb cs2 b2 ∧ wc.heap[kb]? = some (.cells #[.string ⟨#[]⟩, .int .i64 0, .int .i64 0] 75 (0, 0)) ∧ Below W.heap.size W wc)
        case first =>
          refine wp_region_held_drew (S := fun V => Hid (V.ownsRow W.heap.size 5 1 (.slice ua u.length uc) u.length (flat byteC u))) (by kernel_rfl) (Lib.hid (own_below HoO.out ((Below.refl _ _).drew))) (fun hS0 => ?_)
          have rd0 := Lib.hid (Hrd.out.below2 ((Below.refl _ _).drew))
          have hk0 := Lib.hid (blk_bels ((Below.refl _ _).drew) HkO.out)
          have bl0 := Lib.hid (HbO.out.trans ((Below.refl _ _).drew))
          refine wpAnyH_take (i := 0) (oi := { dst := some 29, op := Op.move (Operand.tmp 4), type := 34, pos := "ikey.go:88", after := #[], guard := none }) (v := ?_) rfl (by kernel_rfl) (by kernel_rfl) (by kernel_rfl) (fun _ _ _ h => h) (Or.inl ⟨by rfl, ?hy1⟩) hS0 ?_
          case hy1 => (intro V hSw; (try dsimp only at hSw); have hcv := conv_own hSw.out Hub.out; clear hSw; go_simp; try with_reducible rfl)
          try simp only [Act.put, List.setIfInBounds_toArray, List.set_cons_zero, List.set_cons_succ]
          refine wpAnyH_take (i := 1) (oi := { dst := some 30, op := Op.convert 34 9 (Operand.tmp 29), type := 9, pos := "ikey.go:88", after := #[{ on := 0, ground := Ground.data }], guard := none }) (v := ?_) rfl (by kernel_rfl) (by kernel_rfl) (by kernel_rfl) (fun _ _ _ h => h) (Or.inl ⟨by rfl, ?hy2⟩) hS0 ?_
          case hy2 => (intro V hSw; (try dsimp only at hSw); have hcv := conv_own hSw.out Hub.out; clear hSw; go_simp; try with_reducible rfl)
          try simp only [Act.put, List.setIfInBounds_toArray, List.set_cons_zero, List.set_cons_succ]
          refine wpAnyH_take (i := 2) (oi := { dst := some 31, op := Op.move (Operand.tmp 8), type := 3, pos := "ikey.go:88", after := #[], guard := none }) (v := ?_) rfl (by kernel_rfl) (by kernel_rfl) (by kernel_rfl) (fun _ _ _ h => h) (Or.inl ⟨by rfl, ?hy3⟩) hS0 ?_
          case hy3 => (intro V hSw; (try dsimp only at hSw); have hcv := conv_own hSw.out Hub.out; clear hSw; go_simp; try with_reducible rfl)
          try simp only [Act.put, List.setIfInBounds_toArray, List.set_cons_zero, List.set_cons_succ]
          refine wpAnyH_take (i := 3) (oi := { dst := some 32, op := Op.binOp BinOp.sub 3 (Operand.const (Value.int IntKind.i64 1099511627776)) (Operand.tmp 31) 3, type := 3, pos := "ikey.go:88", after := #[{ on := 2, ground := Ground.data }], guard := none }) (v := ?_) rfl (by kernel_rfl) (by kernel_rfl) (by kernel_rfl) (fun _ _ _ h => h) (Or.inl ⟨by rfl, ?hy4⟩) hS0 ?_
          case hy4 => (intro V hSw; (try dsimp only at hSw); have hcv := conv_own hSw.out Hub.out; clear hSw; go_simp; try with_reducible rfl)
          try simp only [Act.put, List.setIfInBounds_toArray, List.set_cons_zero, List.set_cons_succ]
          refine wpAnyH_take (i := 4) (oi := { dst := some 33, op := Op.move (Operand.tmp 7), type := 104, pos := "ikey.go:88", after := #[], guard := none }) (v := ?_) rfl (by kernel_rfl) (by kernel_rfl) (by kernel_rfl) (fun _ _ _ h => h) (Or.inl ⟨by rfl, ?hy5⟩) hS0 ?_
          case hy5 => (intro V hSw; (try dsimp only at hSw); have hcv := conv_own hSw.out Hub.out; clear hSw; go_simp; try with_reducible rfl)
          try simp only [Act.put, List.setIfInBounds_toArray, List.set_cons_zero, List.set_cons_succ]
          refine wpAnyH_ready (rs := [5, 9]) (by kernel_rfl) (by simp) (AllReadyH.cons rfl (fun K hK => ?_) (AllReadyH.cons rfl (fun K hK => ?_) AllReadyH.nil))
          · go_simp
            refine (Hby.out _ rd0.out).mono ?_
            rintro e wv6 ⟨rfl, hr6, hg6⟩
            have hS6 := Lib.hid (own_rd hS0.out rd0.out hg6)
            have rd6 := Lib.hid hr6
            have hk6 := Lib.hid ((hg6.block kb (blk_lt hk0.out) (fun e => by injection e with e; have := HkR.out.1; omega)).trans hk0.out)
            have bl6 := Lib.hid (bl0.out.trans (grown_belowR hg6 HkR.out.2.1 bl0.out.size))
            clear hr6 hg6
            refine hK.out _ _ hS6 (fun _ => ?_)
            clear hK K
            try simp only [Act.put, List.setIfInBounds_toArray, List.set_cons_zero, List.set_cons_succ]
            refine wpAnyH_take (i := 6) (oi := { dst := some 35, op := Op.convert 5 3 (Operand.tmp 34), type := 3, pos := "ikey.go:88", after := #[{ on := 5, ground := Ground.data }], guard := none }) (v := ?_) rfl (by kernel_rfl) (by kernel_rfl) (by kernel_rfl) (fun _ _ _ h => h) (Or.inl ⟨by rfl, ?hy7⟩) hS6 ?_
            case hy7 => (intro V hSw; (try dsimp only at hSw); have hcv := conv_own hSw.out Hub.out; clear hSw; go_simp; try with_reducible rfl)
            try simp only [Act.put, List.setIfInBounds_toArray, List.set_cons_zero, List.set_cons_succ]
            refine wpAnyH_take (i := 7) (oi := { dst := some 36, op := Op.binOp BinOp.sub 3 (Operand.const (Value.int IntKind.i64 255)) (Operand.tmp 35) 3, type := 3, pos := "ikey.go:88", after := #[{ on := 6, ground := Ground.data }], guard := none }) (v := ?_) rfl (by kernel_rfl) (by kernel_rfl) (by kernel_rfl) (fun _ _ _ h => h) (Or.inl ⟨by rfl, ?hy8⟩) hS6 ?_
            case hy8 => (intro V hSw; (try dsimp only at hSw); have hcv := conv_own hSw.out Hub.out; clear hSw; go_simp; try with_reducible rfl)
            try simp only [Act.put, List.setIfInBounds_toArray, List.set_cons_zero, List.set_cons_succ]
            refine wpAnyH_take (i := 8) (oi := { dst := some 37, op := Op.build 75 #[(0, Operand.tmp 30), (1, Operand.tmp 32), (2, Operand.tmp 36)], type := 75, pos := "ikey.go:88", after := #[{ on := 1, ground := Ground.data }, { on := 3, ground := Ground.data }, { on := 7, ground := Ground.data }], guard := none }) (v := ?_) rfl (by kernel_rfl) (by kernel_rfl) (by kernel_rfl) (fun _ _ _ h => h) (Or.inl ⟨by rfl, ?hy9⟩) hS6 ?_
            case hy9 => (intro V hSw; (try dsimp only at hSw); have hcv := conv_own hSw.out Hub.out; clear hSw; go_simp; try with_reducible rfl)
            try simp only [Act.put, List.setIfInBounds_toArray, List.set_cons_zero, List.set_cons_succ]
            refine wpAnyH_ready (rs := [9]) (by kernel_rfl) (by simp) (AllReadyH.cons rfl (fun K hK => ?_) AllReadyH.nil)
            go_simp
            have hA10 : Below wv6.heap.size wv6 (wv6.alloc (.cells #[.string ⟨#[]⟩, .int .i64 0, .int .i64 0] 75)) := (Below.refl _ _).alloc (Nat.le_refl _) _
            have hS10 := Lib.hid (own_below hS6.out hA10)
            have rd10 := Lib.hid (rd6.out.below2 hA10)
            have hk10 := Lib.hid (blk_bels hA10 hk6.out)
            have bl10 := Lib.hid (bl6.out.trans (hA10.mono bl6.out.size))
            have hp10 : Hid ((wv6.alloc (.cells #[.string ⟨#[]⟩, .int .i64 0, .int .i64 0] 75)).heap[wv6.heap.size]? = some (.cells #[.string ⟨#[]⟩, .int .i64 0, .int .i64 0] 75 (0, 0))) := Lib.hid (blk_of_alloc wv6 (.cells #[.string ⟨#[]⟩, .int .i64 0, .int .i64 0] 75))
            have rl10 : Hid (rb < wv6.heap.size) := Lib.hid (by obtain ⟨v, hv, -⟩ := rd6.out.ex; exact blk_lt hv)
            clear hA10
            refine hK.out _ _ hS10 (fun _ => ?_)
            clear hK K
            try simp only [Act.put, List.setIfInBounds_toArray, List.set_cons_zero, List.set_cons_succ]
            refine wpAnyH_ready (rs := [10]) (by kernel_rfl) (by simp) (AllReadyH.cons rfl (fun K hK => ?_) AllReadyH.nil)
            go_simp
            have hA11 : Below wv6.heap.size wv6 (wv6.alloc (.cells #[.string (strOf u), .int .i64 (1099511627776 - (acc : Int)), .int .i64 (255 - (x : Int))] 75)) := (Below.refl _ _).alloc (Nat.le_refl _) _
            have hS11 := Lib.hid (own_below hS6.out hA11)
            refine hK.out _ _ hS11 (fun _ => ?_)
            clear hK K
            try simp only [Act.put, List.setIfInBounds_toArray, List.set_cons_zero, List.set_cons_succ]
            refine wpAnyH_done (by kernel_rfl) ?_ _
            go_wp2_with fail
            go_meet
            case rel => exact ⟨_, rfl, blk_of_alloc wv6 (.cells #[.string (strOf u), .int .i64 (1099511627776 - (acc : Int)), .int .i64 (255 - (x : Int))] 75), rd6.out.below2 hA11, blk_bels hA11 hk6.out, bl6.out.trans (hA11.mono bl6.out.size)⟩
          · go_simp
            have hA12 : Below wo.drew.heap.size wo.drew (wo.drew.alloc (.cells #[.string ⟨#[]⟩, .int .i64 0, .int .i64 0] 75)) := (Below.refl _ _).alloc (Nat.le_refl _) _
            have hS12 := Lib.hid (own_below hS0.out hA12)
            have rd12 := Lib.hid (rd0.out.below2 hA12)
            have hk12 := Lib.hid (blk_bels hA12 hk0.out)
            have bl12 := Lib.hid (bl0.out.trans (hA12.mono bl0.out.size))
            have hp12 : Hid ((wo.drew.alloc (.cells #[.string ⟨#[]⟩, .int .i64 0, .int .i64 0] 75)).heap[wo.heap.size]? = some (.cells #[.string ⟨#[]⟩, .int .i64 0, .int .i64 0] 75 (0, 0))) := Lib.hid (blk_of_alloc wo.drew (.cells #[.string ⟨#[]⟩, .int .i64 0, .int .i64 0] 75))
            have rl12 : Hid (rb < wo.heap.size) := Lib.hid (by obtain ⟨v, hv, -⟩ := rd0.out.ex; exact blk_lt hv)
            clear hA12
            refine hK.out _ _ hS12 (fun _ => ?_)
            clear hK K
            try simp only [Act.put, List.setIfInBounds_toArray, List.set_cons_zero, List.set_cons_succ]
            refine wpAnyH_ready (rs := [5]) (by kernel_rfl) (by simp) (AllReadyH.cons rfl (fun K hK => ?_) AllReadyH.nil)
            go_simp
            refine (Hby.out _ rd12.out).mono ?_
            rintro e wv13 ⟨rfl, hr13, hg13⟩
            have hS13 := Lib.hid (own_rd hS12.out rd12.out hg13)
            have rd13 := Lib.hid hr13
            have hk13 := Lib.hid ((hg13.block kb (blk_lt hk12.out) (fun e => by injection e with e; have := HkR.out.1; omega)).trans hk12.out)
            have bl13 := Lib.hid (bl12.out.trans (grown_belowR hg13 HkR.out.2.1 bl12.out.size))
            have hp13 := Lib.hid ((hg13.block _ (blk_lt hp12.out) (fun e => by injection e with e; have h1 := rl12.out; omega)).trans hp12.out)
            clear hr13 hg13
            refine hK.out _ _ hS13 (fun _ => ?_)
            clear hK K
            try simp only [Act.put, List.setIfInBounds_toArray, List.set_cons_zero, List.set_cons_succ]
            refine wpAnyH_take (i := 6) (oi := { dst := some 35, op := Op.convert 5 3 (Operand.tmp 34), type := 3, pos := "ikey.go:88", after := #[{ on := 5, ground := Ground.data }], guard := none }) (v := ?_) rfl (by kernel_rfl) (by kernel_rfl) (by kernel_rfl) (fun _ _ _ h => h) (Or.inl ⟨by rfl, ?hy14⟩) hS13 ?_
            case hy14 => (intro V hSw; (try dsimp only at hSw); have hcv := conv_own hSw.out Hub.out; clear hSw; go_simp; try with_reducible rfl)
            try simp only [Act.put, List.setIfInBounds_toArray, List.set_cons_zero, List.set_cons_succ]
            refine wpAnyH_take (i := 7) (oi := { dst := some 36, op := Op.binOp BinOp.sub 3 (Operand.const (Value.int IntKind.i64 255)) (Operand.tmp 35) 3, type := 3, pos := "ikey.go:88", after := #[{ on := 6, ground := Ground.data }], guard := none }) (v := ?_) rfl (by kernel_rfl) (by kernel_rfl) (by kernel_rfl) (fun _ _ _ h => h) (Or.inl ⟨by rfl, ?hy15⟩) hS13 ?_
            case hy15 => (intro V hSw; (try dsimp only at hSw); have hcv := conv_own hSw.out Hub.out; clear hSw; go_simp; try with_reducible rfl)
            try simp only [Act.put, List.setIfInBounds_toArray, List.set_cons_zero, List.set_cons_succ]
            refine wpAnyH_take (i := 8) (oi := { dst := some 37, op := Op.build 75 #[(0, Operand.tmp 30), (1, Operand.tmp 32), (2, Operand.tmp 36)], type := 75, pos := "ikey.go:88", after := #[{ on := 1, ground := Ground.data }, { on := 3, ground := Ground.data }, { on := 7, ground := Ground.data }], guard := none }) (v := ?_) rfl (by kernel_rfl) (by kernel_rfl) (by kernel_rfl) (fun _ _ _ h => h) (Or.inl ⟨by rfl, ?hy16⟩) hS13 ?_
            case hy16 => (intro V hSw; (try dsimp only at hSw); have hcv := conv_own hSw.out Hub.out; clear hSw; go_simp; try with_reducible rfl)
            try simp only [Act.put, List.setIfInBounds_toArray, List.set_cons_zero, List.set_cons_succ]
            refine wpAnyH_ready (rs := [10]) (by kernel_rfl) (by simp) (AllReadyH.cons rfl (fun K hK => ?_) AllReadyH.nil)
            have pc17 := fun j => cell_of_blk hp13.out j
            have pz17 := fun j => frozen_of_blk hp13.out j
            go_simp
            refine hK.out _ _ (Lib.hid (own_set3 hS13.out hp13.out _ _ _)) (fun _ => ?_)
            clear hK K
            try simp only [Act.put, List.setIfInBounds_toArray, List.set_cons_zero, List.set_cons_succ]
            refine wpAnyH_done (by kernel_rfl) ?_ _
            go_wp2_with fail
            go_meet
            case rel => exact ⟨_, rfl, key3 hp13.out rd13.out hk13.out bl13.out rl12.out HkR.out.1 HkR.out.2.1 _ _ _⟩
        case rest =>
          obtain ⟨P, rfl, hP, hrd5, hk5, hb5⟩ := hcut
          have hkbw := Hkb.out
          subst hkbw
          obtain ⟨K, hK⟩ : ∃ K : Ky, K = ⟨strOf u, 1099511627776 - (acc : Int), 255 - (x : Int)⟩ := ⟨_, rfl⟩
          have Hkey : Hid (keyR bs = (K, ok && (!b2 && cs2.isEmpty) && okK K)) := Lib.hid (by
            have h6 : agR 6 0 false (bs.drop m) = (acc, cs, bad) := Hag.out
            rw [hK]
            dsimp only [keyR]
            rw [Hgd.out, His.out]
            dsimp only
            rw [h6]
            dsimp only
            rw [← Hp.out])
          have HKc : Hid (K.cells.toArray = #[.string (strOf u), .int .i64 (1099511627776 - (acc : Int)), .int .i64 (255 - (x : Int))]) := Lib.hid (by rw [hK]; rfl)
          have Hdn := Lib.hid (done_any w0 wc rb cs2 b2 hrd5)
          have Hck : Hid (∀ X : World, Calls Try.prog 71 #[.agg #[.string (strOf u), .int .i64 (1099511627776 - (acc : Int)), .int .i64 (255 - (x : Int))]] X fun e w' => e = .returned (.int .i64 (chkK K)) ∧ Below X.heap.size X w') := Lib.hid (fun X => by rw [hK]; exact kcheck_any ⟨_, _, _⟩ X)
          have Hb6 := Lib.hid (HA.out.trans (hb5.mono HA.out.size))
          have HP := Lib.hid hP
          have p0 : wc.cell? ⟨P, 0, none⟩ = some (.string (strOf u)) := by rw [cell_blkR hP]; rfl
          have p1 : wc.cell? ⟨P, 1, none⟩ = some (.int .i64 (1099511627776 - (acc : Int))) := by rw [cell_blkR hP]; rfl
          have p2 : wc.cell? ⟨P, 2, none⟩ = some (.int .i64 (255 - (x : Int))) := by rw [cell_blkR hP]; rfl
          have bq := hk5
          have Hk5 := Lib.hid hk5
          have x0 := frozen_blkR bq 0
          have x1 := frozen_blkR bq 1
          have x2 := frozen_blkR bq 2
          have y0 : wc.cell? ⟨w.heap.size, 0, none⟩ = some (.string ⟨#[]⟩) := by rw [cell_blkR bq]; rfl
          have y1 : wc.cell? ⟨w.heap.size, 1, none⟩ = some (.int .i64 0) := by rw [cell_blkR bq]; rfl
          have y2 : wc.cell? ⟨w.heap.size, 2, none⟩ = some (.int .i64 0) := by rw [cell_blkR bq]; rfl
          have Bq := Lib.hid bq
          clear bq
          obtain ⟨kc, hkc⟩ : ∃ q, q = chkK K := ⟨_, rfl⟩
          have Hkc := Lib.hid hkc
          rw [← hkc] at Hck
          obtain ⟨dc, hdc⟩ : ∃ q, q = (!b2 && cs2.isEmpty) := ⟨_, rfl⟩
          rw [← hdc] at Hdn Hkey
          clear hP hK hk5 hb5 hrd5 hkc hdc hw1 hw2 hw3 Hp Hby Hag Hgd His Hrd HbO HoO HkO Hkb
          cases ok with
          | false =>
            have hfin : (false && dc && okK K) = false := by rfl
            go_wp2
            refine bodyPost_ret (v := .tuple #[.agg #[.string ⟨#[]⟩, .int .i64 0, .int .i64 0], .int .i64 30]) ?_ rfl ⟨?_, set3_below Hb6.out _ _ _⟩
            case _ =>
              have hres := set3 Bq.out (.string ⟨#[]⟩) (.int .i64 0) (.int .i64 0)
              have z0 := cell_blkR hres 0
              have z1 := cell_blkR hres 1
              have z2 := cell_blkR hres 2
              simp only [List.getElem?_toArray, List.getElem?_cons_zero, List.getElem?_cons_succ] at z0 z1 z2
              generalize ((_ : World).setCell ⟨w.heap.size, 2, none⟩ (.int .i64 0)) = F at *
              simp [results, Try.results75, go_sem, z0, z1, z2]
            case _ =>
              have e2 : (keyR bs).2 = false := by rw [Hkey.out]; exact hfin
              have e1 : (keyR bs).1 = K := by rw [Hkey.out]
              rw [keyE_no e2]
          | true =>
            cases dc with
            | false =>
              have Hdn' : Hid (Calls Try.prog 46 #[.pointer (some ⟨rb, 0, none⟩)] wc fun e w' => e = .returned (.int .i64 20) ∧ w' = wc) := Hdn
              have hfin : (true && false && okK K) = false := by rfl
              clear Hdn
              go_wp2_with fail
              refine Hdn'.out.mono ?_
              rintro e w' ⟨rfl, rfl⟩
              go_wp2
              refine bodyPost_ret (v := .tuple #[.agg #[.string ⟨#[]⟩, .int .i64 0, .int .i64 0], .int .i64 30]) ?_ rfl ⟨?_, set3_below Hb6.out _ _ _⟩
              case _ =>
                have hres := set3 Bq.out (.string ⟨#[]⟩) (.int .i64 0) (.int .i64 0)
                have z0 := cell_blkR hres 0
                have z1 := cell_blkR hres 1
                have z2 := cell_blkR hres 2
                simp only [List.getElem?_toArray, List.getElem?_cons_zero, List.getElem?_cons_succ] at z0 z1 z2
                generalize ((_ : World).setCell ⟨w.heap.size, 2, none⟩ (.int .i64 0)) = F at *
                simp [results, Try.results75, go_sem, z0, z1, z2]
              case _ =>
                have e2 : (keyR bs).2 = false := by rw [Hkey.out]; exact hfin
                have e1 : (keyR bs).1 = K := by rw [Hkey.out]
                rw [keyE_no e2]
            | true =>
              have Hdn' : Hid (Calls Try.prog 46 #[.pointer (some ⟨rb, 0, none⟩)] wc fun e w' => e = .returned (.int .i64 0) ∧ w' = wc) := Hdn
              clear Hdn
              go_wp2_with fail
              refine Hdn'.out.mono ?_
              rintro e w' ⟨rfl, rfl⟩
              cases hok : okK K with
              | true =>
                have hz : kc = 0 := by rw [Hkc.out]; unfold chkK; rw [if_pos hok]
                subst hz
                have hfin : (true && true && okK K) = true := by rw [hok]; rfl
                clear Hkc
                go_wp2_with fail
                refine (Hck.out _).mono ?_
                rintro e w8 ⟨rfl, hb8⟩
                have Hb8 := Lib.hid (Hb6.out.trans (hb8.mono Hb6.out.size))
                have HP8 := (hb8.block _ (blk_lt HP.out)).trans HP.out
                have p0 : w8.cell? ⟨P, 0, none⟩ = some (.string (strOf u)) := by rw [cell_blkR HP8]; rfl
                have p1 : w8.cell? ⟨P, 1, none⟩ = some (.int .i64 (1099511627776 - (acc : Int))) := by rw [cell_blkR HP8]; rfl
                have p2 : w8.cell? ⟨P, 2, none⟩ = some (.int .i64 (255 - (x : Int))) := by rw [cell_blkR HP8]; rfl
                have bq := (hb8.block _ (blk_lt Hk5.out)).trans Hk5.out
                clear x0 x1 x2 y0 y1 y2 Bq HP8 hb8 hok
                have x0 := frozen_blkR bq 0
                have x1 := frozen_blkR bq 1
                have x2 := frozen_blkR bq 2
                have y0 : w8.cell? ⟨w.heap.size, 0, none⟩ = some (.string ⟨#[]⟩) := by rw [cell_blkR bq]; rfl
                have y1 : w8.cell? ⟨w.heap.size, 1, none⟩ = some (.int .i64 0) := by rw [cell_blkR bq]; rfl
                have y2 : w8.cell? ⟨w.heap.size, 2, none⟩ = some (.int .i64 0) := by rw [cell_blkR bq]; rfl
                have Bq := Lib.hid bq
                clear bq
                go_wp2
                refine bodyPost_ret (v := .tuple #[.agg #[.string (strOf u), .int .i64 (1099511627776 - (acc : Int)), .int .i64 (255 - (x : Int))], .int .i64 0]) ?_ rfl ⟨?_, set3_below Hb8.out _ _ _⟩
                case _ =>
                  have hres := set3 Bq.out (.string (strOf u)) (.int .i64 (1099511627776 - (acc : Int))) (.int .i64 (255 - (x : Int)))
                  have z0 := cell_blkR hres 0
                  have z1 := cell_blkR hres 1
                  have z2 := cell_blkR hres 2
                  simp only [List.getElem?_toArray, List.getElem?_cons_zero, List.getElem?_cons_succ] at z0 z1 z2
                  generalize ((_ : World).setCell ⟨w.heap.size, 2, none⟩ (.int .i64 (255 - (x : Int)))) = F at *
                  simp [results, Try.results75, go_sem, z0, z1, z2]
                case _ =>
                  have e2 : (keyR bs).2 = true := by rw [Hkey.out]; exact hfin
                  have e1 : (keyR bs).1 = K := by rw [Hkey.out]
                  rw [keyE_yes e2, e1, HKc.out]
              | false =>
                have hz : kc = 30 := by rw [Hkc.out]; unfold chkK; rw [hok]; rfl
                subst hz
                have hfin : (true && true && okK K) = false := by rw [hok]; rfl
                clear Hkc
                go_wp2_with fail
                refine (Hck.out _).mono ?_
                rintro e w8 ⟨rfl, hb8⟩
                have Hb8 := Lib.hid (Hb6.out.trans (hb8.mono Hb6.out.size))
                have bq := (hb8.block _ (blk_lt Hk5.out)).trans Hk5.out
                clear x0 x1 x2 y0 y1 y2 Bq hb8 hok
                have x0 := frozen_blkR bq 0
                have x1 := frozen_blkR bq 1
                have x2 := frozen_blkR bq 2
                have y0 : w8.cell? ⟨w.heap.size, 0, none⟩ = some (.string ⟨#[]⟩) := by rw [cell_blkR bq]; rfl
                have y1 : w8.cell? ⟨w.heap.size, 1, none⟩ = some (.int .i64 0) := by rw [cell_blkR bq]; rfl
                have y2 : w8.cell? ⟨w.heap.size, 2, none⟩ = some (.int .i64 0) := by rw [cell_blkR bq]; rfl
                have Bq := Lib.hid bq
                clear bq
                go_wp2
                refine bodyPost_ret (v := .tuple #[.agg #[.string ⟨#[]⟩, .int .i64 0, .int .i64 0], .int .i64 30]) ?_ rfl ⟨?_, set3_below Hb8.out _ _ _⟩
                case _ =>
                  have hres := set3 Bq.out (.string ⟨#[]⟩) (.int .i64 0) (.int .i64 0)
                  have z0 := cell_blkR hres 0
                  have z1 := cell_blkR hres 1
                  have z2 := cell_blkR hres 2
                  simp only [List.getElem?_toArray, List.getElem?_cons_zero, List.getElem?_cons_succ] at z0 z1 z2
                  generalize ((_ : World).setCell ⟨w.heap.size, 2, none⟩ (.int .i64 0)) = F at *
                  simp [results, Try.results75, go_sem, z0, z1, z2]
                case _ =>
                  have e2 : (keyR bs).2 = false := by rw [Hkey.out]; exact hfin
                  have e1 : (keyR bs).1 = K := by rw [Hkey.out]
                  rw [keyE_no e2]
end Go.Proofs.Ythjjelomlgmllaa.Tithe
