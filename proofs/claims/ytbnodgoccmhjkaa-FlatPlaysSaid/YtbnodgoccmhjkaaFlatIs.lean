/- law21's is: walked, where it says yes. -/
import Derived.Test.YtbnodgoccmhjkaaFlatKeys
namespace Go.Proofs.Ytbnodgoccmhjkaa.Tithe
open Go.RowKit Go.Sort Go.Shelf
set_option linter.unusedVariables false
set_option linter.unusedSimpArgs false
set_option maxRecDepth 100000
attribute [local go_sem] Oper.semAt_some
set_option maxHeartbeats 6400000 in
theorem is_true (xb : Nat) (wv : Value) (most : Int) (rows : List Wr) (nn : Int) (v0 vk : Value) (base : Nat) (ks : List (List UInt8)) (w : World) (hB : w.heap[xb]? = some (.cells #[wv, .int .i64 most] 36 (0, 0))) (h : IsWs w wv rows) (hl : rows.length ≤ 1000000)
    (h0 : IsOs w v0 (outO (foldF ((opsOf rows).take nn.toNat).flatten) ks)) (hk : OwnSt w base vk ks) (hks : ∀ y ∈ ks, (foldF ((opsOf rows).take nn.toNat).flatten (ba y)).isSome = true) (hkl : ks.length ≤ 100000) :
    Calls Try.prog 14 #[v0, .pointer (some ⟨xb, 0, none⟩), .int .i64 nn, vk] w fun e w' => e = .returned (.bool true) ∧ Below w.heap.size w w' := by
  have Hfind := Lib.hid (fun (key : ByteArray) (A : World) (hA : Below w.heap.size w A) => find_any xb wv most rows nn key A (blk_bels hA hB) (h.below hA) hl)
  obtain ⟨all, hall⟩ : ∃ all, all = ((opsOf rows).take nn.toNat).flatten := ⟨_, rfl⟩
  rw [← hall] at Hfind h0 hks
  clear hall hB h hl
  have hol := outO_len (foldF all) ks
  obtain ⟨a, c, rfl, -, -, -⟩ := id h0
  obtain ⟨-, hc, hm, hx⟩ := h0.at
  rw [hol] at hc hx ⊢
  obtain ⟨ka, kc, rfl⟩ := own_slice hk
  obtain ⟨n, hn⟩ : ∃ n, n = ks.length := ⟨_, rfl⟩
  have hcl := fun (q : 0 < n) => own_str (by have := hk; unfold OwnSt at this; rw [← hn] at this; exact this) hn.symm q
  rw [← hn] at hc hx hkl ⊢
  have Hx := Lib.hid hx
  have Hn := Lib.hid hn
  have Hcl := Lib.hid hcl
  have Hks := Lib.hid hks
  clear hol h0 hk hx hn hcl hks
  go_enter Try.func14, Try.ntmps14
  go_wp2_with fail
  go_loopw [20] (fun iv wr => ∃ k : Nat, k ≤ n ∧ iv = .int .i64 k ∧ Hid (Below w.heap.size w wr)) (fun iv _ => n - (intOf iv).toNat)
  case atStart => exact ⟨0, Nat.zero_le _, rfl, Lib.hid (Below.refl _ _)⟩
  case round =>
    obtain ⟨wo, rfl⟩ : ∃ wo : World, wo = wr := ⟨_, rfl⟩
    obtain ⟨k, hk2, rfl, hb⟩ := hrel
    by_cases hkn : k < n
    · obtain ⟨b, off, rfl, hcell⟩ := Hx.out (by omega)
      obtain ⟨g, rfl, hgl, hce⟩ := Hcl.out (by omega)
      obtain ⟨y, hyk⟩ : ∃ y, ks[k]? = some y := ⟨_, List.getElem?_eq_getElem (by rw [← Hn.out]; exact hkn)⟩
      have hym := List.mem_of_getElem? hyk
      have hsome := Hks.out y hym
      have e0 := (hb.out.cell (p := ⟨g, k, none⟩) hgl).trans (hce k y hyk)
      have hrow := fun (A : World) (hA : Below w.heap.size w A) => IsOs.row (w := A) (fun i x hi j y hj => (hA.cell (block_lt_of_cell (hcell i x hi j y hj))).trans (hcell i x hi j y hj)) (outO_at (F := foldF all) hyk)
      have Hfi := Lib.hid (Hfind.out (ba y) wo hb.out)
      have hv : valO (foldF all) y = (findL (ba y) all).1 := by
        unfold valO
        rw [foldF_is] at hsome ⊢
        cases q : (findL (ba y) all).2 with
        | true => rw [if_pos rfl]; rfl
        | false => rw [q] at hsome; cases hsome
      dsimp only at hrow
      rw [hv] at hrow
      obtain ⟨⟨val, isb⟩, hval⟩ : ∃ p, p = findL (ba y) all := ⟨_, rfl⟩
      rw [← hval] at hrow Hfi
      obtain ⟨u, hu⟩ : ∃ u, u = ba y := ⟨_, rfl⟩
      rw [← hu] at hrow Hfi e0
      dsimp only at hrow Hfi
      have Hrow := Lib.hid hrow
      have hkni : (k : Int) < (n : Int) := by omega
      clear hcell hgl hce hyk hym hsome hrow hv hval hu
      go_wp2_with fail
      refine Hfi.out.mono ?_
      rintro e w1 ⟨rfl, hb1⟩
      have Hb1 := Lib.hid (hb.out.trans (hb1.mono hb.out.size))
      obtain ⟨d0, d1, d2⟩ := Hrow.out w1 Hb1.out
      clear hb1 hb e0 Hfi
      go_wp2_with fail
      go_roundw
      case rel => exact ⟨k + 1, by omega, by go_num, Hb1⟩
      case measure => simp [intOf]; omega
    · obtain rfl : n = k := by omega
      go_wp2_with fail
      go_ret
      exact ⟨rfl, hb.out⟩
end Go.Proofs.Ytbnodgoccmhjkaa.Tithe
