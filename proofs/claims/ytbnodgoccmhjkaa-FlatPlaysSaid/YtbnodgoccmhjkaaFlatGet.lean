/- at, Get: walked. -/
import Derived.Test.YtbnodgoccmhjkaaFlatFold
namespace Go.Proofs.Ytbnodgoccmhjkaa.Tithe
open Go.RowKit Go.Sort Go.Shelf
set_option linter.unusedVariables false
set_option linter.unusedSimpArgs false
set_option maxRecDepth 100000
def errG (o : Option ByteArray) : Int := if o.isSome = true then 0 else 200
def valG (o : Option ByteArray) : ByteArray := o.getD ⟨#[]⟩
theorem outO_len (F : FunO) (ks : List (List UInt8)) : (outO F ks).length = ks.length := by unfold outO; rw [List.length_map]
theorem outO_at {F : FunO} {ks : List (List UInt8)} {k : Nat} {y : List UInt8} (h : ks[k]? = some y) : (outO F ks)[k]? = some ⟨1, ba y, valO F y⟩ := by
  unfold outO; rw [List.getElem?_map, h]; rfl
theorem ba_eq {x : List UInt8} {u : ByteArray} (h : ba x = u) : x = u.data.toList := by rw [← h]; unfold ba; simp
/-- a key that none of the keys is, is not there -/
theorem keys_none {F : FunO} {ks : List (List UInt8)} (h : KeysIs F ks) {key : ByteArray} (hk : key.size ≤ maxLen) (hn : ∀ j y, j < ks.length → ks[j]? = some y → ba y ≠ key) : F key = none := by
  have hx : key.data.toList.length ≤ maxLen := by simpa using hk
  cases hF : F key with
  | none => rfl
  | some v =>
    exfalso
    have hm := (h.iff key.data.toList hx).2 (by rw [ba_list, hF]; rfl)
    obtain ⟨j, hj⟩ := List.getElem?_of_mem hm
    exact hn j _ (List.getElem?_eq_some_iff.1 hj).1 hj (ba_list key)
theorem keys_some {F : FunO} {ks : List (List UInt8)} (h : KeysIs F ks) {y : List UInt8} (hy : y ∈ ks) : F (ba y) = some (valO F y) := by
  have := (h.iff y (h.le y hy)).1 hy
  obtain ⟨v, hv⟩ := Option.isSome_iff_exists.1 this
  unfold valO
  rw [hv]; rfl
attribute [local go_sem] Oper.semAt_some
theorem at0_any (W : World) (mb : Nat) (most last : Int) (a : Option Addr) (n c : Nat) (sm im : Nat) (hd : Int) (hB : W.heap[mb]? = some (.cells (moC most last (.slice a n c) sm im hd) 78 (0, 0))) :
    Calls Try.prog 30 #[.pointer (some ⟨mb, 0, none⟩), .int .i64 0] W fun e W' => e = .returned (.tuple #[.int .i64 n, .int .i64 0]) ∧ W = W' := by
  have m2 := (cell_of_blk hB 2).trans (show _ = some (.slice a n c) from rfl)
  clear hB
  go_enter Try.func30, Try.ntmps30
  go_wp2_with fail
  go_ret2
  exact ⟨rfl, rfl⟩
theorem get_no (mb : Nat) (key : ByteArray) (hh er n : Int) (w : World) (hat : Calls Try.prog 30 #[.pointer (some ⟨mb, 0, none⟩), .int .i64 hh] w fun e w' => e = .returned (.tuple #[.int .i64 n, .int .i64 er]) ∧ w = w') (he : er ≠ 0) :
    Calls Try.prog 10 #[.pointer (some ⟨mb, 0, none⟩), .string key, .int .i64 hh] w fun e w' => e = .returned (.tuple #[.string ⟨#[]⟩, .int .i64 er]) ∧ Below w.heap.size w w' := by
  have Hat := Lib.hid hat
  have h1 : (er != 0) = true := by simpa using he
  clear hat he
  go_enter Try.func10, Try.ntmps10
  go_wp2_with fail
  refine Hat.out.mono ?_
  rintro e w' ⟨rfl, rfl⟩
  go_wp2_with fail
  go_ret2
  exact ⟨rfl, Below.refl _ _⟩
set_option maxHeartbeats 3200000 in
theorem get_yes (mb : Nat) (key : ByteArray) (hh n : Int) (most last : Int) (a : Option Addr) (c : Nat) (rows : List Wr) (sm im : Nat) (hd : Int) (w : World) (hB : w.heap[mb]? = some (.cells (moC most last (.slice a rows.length c) sm im hd) 78 (0, 0))) (h : IsWs w (.slice a rows.length c) rows) (hl : rows.length ≤ 1000000)
    (hfl : (flatO rows (min n.toNat rows.length)).length ≤ 100000) (hsm : ∀ x ∈ flatO rows (min n.toNat rows.length), x.u.size ≤ 100000 ∧ x.v.size ≤ 100000) (hk : key.size ≤ 100000)
    (hat : Calls Try.prog 30 #[.pointer (some ⟨mb, 0, none⟩), .int .i64 hh] w fun e w' => e = .returned (.tuple #[.int .i64 n, .int .i64 0]) ∧ w = w') :
    Calls Try.prog 10 #[.pointer (some ⟨mb, 0, none⟩), .string key, .int .i64 hh] w fun e w' => e = .returned (.tuple #[.string (valG (foldF (flatO rows (min n.toNat rows.length)) key)), .int .i64 (errG (foldF (flatO rows (min n.toNat rows.length)) key))]) ∧ Below w.heap.size w w' := by
  have Hat := Lib.hid hat
  have Hfo := Lib.hid (fold_any mb n most last a c rows sm im hd w hB h hl hfl hsm)
  obtain ⟨F, hF⟩ : ∃ F, F = foldF (flatO rows (min n.toNat rows.length)) := ⟨_, rfl⟩
  rw [← hF] at Hfo ⊢
  clear hat hB h hl hfl hsm hF
  go_enter Try.func10, Try.ntmps10
  go_wp2_with fail
  refine Hat.out.mono ?_
  rintro e w' ⟨rfl, rfl⟩
  go_wp2_with fail
  refine Hfo.out.mono ?_
  rintro e V ⟨v', ks, rfl, hks, hkl, hown, hbV⟩
  have hol := outO_len F ks
  have hsl : IsOs V v' (outO F ks) := isSl_own bo_len (by rw [hol]; exact hown)
  obtain ⟨a1, c1, rfl, -, -, -⟩ := id hsl
  obtain ⟨-, hc1, hm1, hx1⟩ := hsl.at
  rw [hol] at hc1 hx1 ⊢
  obtain ⟨m, hm2⟩ : ∃ q, q = ks.length := ⟨_, rfl⟩
  rw [← hm2] at hc1 hx1 hkl ⊢
  have Hx := Lib.hid hx1
  have Hm2 := Lib.hid hm2
  have Hks := Lib.hid hks
  have HbV := Lib.hid hbV
  clear hol hsl hx1 hm2 hks hbV hown Hfo Hat
  go_wp2_with fail
  go_loopw [25] (fun iv wr => ∃ k : Nat, k ≤ m ∧ iv = .int .i64 k ∧ Hid (∀ j y, j < k → ks[j]? = some y → ba y ≠ key) ∧ Hid (Below V.heap.size V wr)) (fun iv _ => m - (intOf iv).toNat)
  case atStart => exact ⟨0, Nat.zero_le _, rfl, Lib.hid (fun j y hj => absurd hj (Nat.not_lt_zero _)), Lib.hid (Below.refl _ _)⟩
  case round =>
    obtain ⟨wo, rfl⟩ : ∃ wo : World, wo = wr := ⟨_, rfl⟩
    obtain ⟨k, hk2, rfl, hno, hb⟩ := hrel
    by_cases hkm : k < m
    · obtain ⟨b, off, rfl, hcell⟩ := Hx.out (by omega)
      obtain ⟨y, hyk⟩ : ∃ y, ks[k]? = some y := ⟨_, List.getElem?_eq_getElem (by rw [← Hm2.out]; exact hkm)⟩
      obtain ⟨e0, e1, e2⟩ := IsOs.row (w := wo) (fun i x hi j y hj => (hb.out.cell (block_lt_of_cell (hcell i x hi j y hj))).trans (hcell i x hi j y hj)) (outO_at (F := F) hyk)
      have hFy := keys_some Hks.out (List.mem_of_getElem? hyk)
      dsimp only at e0 e1 e2
      obtain ⟨u, hu⟩ : ∃ u, u = ba y := ⟨_, rfl⟩
      obtain ⟨val, hval⟩ : ∃ v, v = valO F y := ⟨_, rfl⟩
      rw [← hu] at e1 hFy
      rw [← hval] at e2 hFy
      have hnx : ¬ u = key → Hid (∀ j y, j < k + 1 → ks[j]? = some y → ba y ≠ key) := fun hne => Lib.hid (fun j z hj hz => by
        by_cases e : j = k
        · subst e
          rw [hyk] at hz
          injection hz with hz
          rw [← hz, ← hu]
          exact hne
        · exact hno.out j z (by omega) hz)
      have Hnx := Lib.hid hnx
      have HFy := Lib.hid hFy
      have Hb2 : Hid (Below V.heap.size V (wo.alloc (.cells #[.int .i64 1, .string u, .string val] 40))) := Lib.hid (hb.out.alloc hb.out.size _)
      have hkmi : (k : Int) < (m : Int) := by omega
      clear hcell hyk hFy hu hval hnx hno hb
      by_cases hue : u = key
      · subst hue
        have Hfin : Hid (Below w.heap.size w (wo.alloc (.cells #[.int .i64 1, .string u, .string val] 40))) := Lib.hid (HbV.out.trans (Hb2.out.mono HbV.out.size))
        go_wp2_with fail
        go_ret2
        refine ⟨?_, Hfin.out⟩
        rw [HFy.out]
        rfl
      · have hq := str_noO hue
        have Hnx2 := Hnx.out hue
        go_wp2_with fail
        go_roundw
        case rel => exact ⟨k + 1, by omega, by go_num, Hnx2, Hb2⟩
        case measure => simp [intOf]; omega
    · obtain rfl : m = k := by omega
      have Hfin : Hid (Below w.heap.size w wo) := Lib.hid (HbV.out.trans (hb.out.mono HbV.out.size))
      have Hn := Lib.hid (keys_none Hks.out (key := key) (by unfold maxLen; omega) (fun j y hj hy => hno.out j y (by rw [Hm2.out]; exact hj) hy))
      clear hno hb
      go_wp2_with fail
      go_ret2
      refine ⟨?_, Hfin.out⟩
      rw [Hn.out]
      rfl
end Go.Proofs.Ytbnodgoccmhjkaa.Tithe
