/- The document's one list of several runs. -/
import Derived.Test.YtcgkpbhoiaeolaaMerMake
namespace Go.Proofs.Ytcgkpbhoiaeolaa.Tithe
open Go.RowKit Go.Sort
set_option linter.unusedVariables false
def oneStep (o : List It) (q : It) : List It := if hasK o q.1 then o else putL o q
def oneRow (o r : List It) : List It := r.foldl oneStep o
def oneL (ls : List (List It)) : List It := ls.foldl oneRow []
theorem oneStep_le (o : List It) (q : It) : (oneStep o q).length ≤ o.length + 1 := by
  unfold oneStep
  split
  · omega
  · rw [putL_length]; omega
theorem oneRow_le (r : List It) : ∀ o, (oneRow o r).length ≤ o.length + r.length := by
  induction r with
  | nil => intro o; simp [oneRow]
  | cons q r ih =>
    intro o
    have h1 := ih (oneStep o q)
    have h2 := oneStep_le o q
    show (oneRow (oneStep o q) r).length ≤ _
    rw [List.length_cons]
    omega
theorem oneRow_take {r : List It} {k : Nat} (o : List It) (h : k < r.length) : oneRow o (r.take (k + 1)) = oneStep (oneRow o (r.take k)) (r.getD k (0, 0)) := by
  unfold oneRow
  rw [List.take_succ_eq_append_getElem h, List.foldl_append, List.getD_eq_getElem?_getD, List.getElem?_eq_getElem h]; rfl
theorem oneL_take {ls : List (List It)} {k : Nat} (h : k < ls.length) : oneL (ls.take (k + 1)) = oneRow (oneL (ls.take k)) (ls.getD k []) := by
  unfold oneL
  rw [List.take_succ_eq_append_getElem h, List.foldl_append, List.getD_eq_getElem?_getD, List.getElem?_eq_getElem h]; rfl
theorem one_any (v : Value) (ls : List (List It)) (w : World) (h : IsIts w v ls) (hlen : ls.length ≤ 100) (hlens : ∀ i, i < ls.length → (ls.getD i []).length ≤ 1000) :
    Calls Try.prog 17 #[v] w fun e w' => ∃ v', e = .returned v' ∧ w'.ownsRow w.heap.size 44 2 v' (oneL ls).length (cellsP (oneL ls)) ∧ Below w.heap.size w w' := by
  obtain ⟨a, c, rfl, -, -, -⟩ := id h
  obtain ⟨-, hc, hm, hx⟩ := h.at
  have Hx := Lib.hid hx
  have Hlens := Lib.hid hlens
  clear h hx hlens
  obtain ⟨n, hn⟩ : ∃ n, n = ls.length := ⟨_, rfl⟩
  rw [← hn] at hc Hx hlen ⊢
  have Hn := Lib.hid hn
  clear hn
  have h00 : Hid (oneL (ls.take 0) = []) := rfl
  go_enter Try.func17, Try.ntmps17
  go_wp2
  go_loopw [3, 4] (fun o i wr => ∃ k : Nat, k ≤ n ∧ i = .int .i64 k ∧ wr.ownsRow w.heap.size 44 2 o (oneL (ls.take k)).length (cellsP (oneL (ls.take k))) ∧ (oneL (ls.take k)).length ≤ 1000 * k ∧ Below w.heap.size w wr) (fun _ i _ => n - (intOf i).toNat)
  case atStart => exact ⟨0, Nat.zero_le _, rfl, by rw [h00.out]; exact World.ownsRow_nil w _ _ _, by rw [h00.out]; simp, Below.refl _ _⟩
  case round =>
    obtain ⟨k, hk, rfl, hown, hle, hb⟩ := hrel
    have hwr := hb.size
    by_cases hlt : k < n
    · obtain ⟨b, off, rfl, hcell⟩ := Hx.out (by omega)
      obtain ⟨ka, kn, kc, c1, hrow⟩ := hcell k hlt
      obtain ⟨hkn, hkc, hkm, hrx⟩ := hrow.at
      have hkl := Hlens.out k (by rw [← Hn.out]; exact hlt)
      have hnext := Lib.hid (oneL_take (ls := ls) (k := k) (by rw [← Hn.out]; exact hlt))
      obtain ⟨wo, rfl⟩ : ∃ wo : World, wo = wr := ⟨_, rfl⟩
      generalize oneL (ls.take k) = o at *
      generalize ls.getD k [] = r at *
      have Hkn := Lib.hid hkn
      have hkn' : kn ≤ 1000 := by omega
      have Hrx := Lib.hid hrx
      have C1 := Lib.hid c1
      clear hcell hrow hkn hrx c1 hkl
      go_wp2
      go_loopw [3, 5] (fun x j wr => ∃ t : Nat, t ≤ kn ∧ j = .int .i64 t ∧ wr.ownsRow w.heap.size 44 2 x (oneRow o (r.take t)).length (cellsP (oneRow o (r.take t))) ∧ Below w.heap.size w wr) (fun _ j _ => kn - (intOf j).toNat)
      case atStart => exact ⟨0, Nat.zero_le _, rfl, hown, hb⟩
      case round =>
        obtain ⟨t, ht, rfl, hown2, hb2⟩ := hrel
        have hwr2 := hb2.size
        have d1 := (hb2.cell (block_lt_of_cell C1.out)).trans C1.out
        by_cases htl : t < kn
        · obtain ⟨b2, off2, rfl, hc2⟩ := Hrx.out (by omega)
          obtain ⟨g1, g2⟩ := hc2 t htl
          have e1 := (hb2.cell (block_lt_of_cell g1)).trans g1
          have e2 := (hb2.cell (block_lt_of_cell g2)).trans g2
          have hnx := oneRow_take (r := r) (k := t) o (by rw [← Hkn.out]; exact htl)
          have hol := oneRow_le (r.take t) o
          rw [List.length_take] at hol
          generalize oneRow o (r.take t) = o2 at *
          generalize r.getD t (0, 0) = q at *
          obtain ⟨x, y⟩ := q
          replace e1 : wr.cell? ⟨b2, off2 + t * 2, none⟩ = some (.int .i64 x) := e1
          replace e2 : wr.cell? ⟨b2, off2 + t * 2 + 1, none⟩ = some (.int .i64 y) := e2
          have Hnx := Lib.hid hnx
          have hit := isIt_own hown2
          have hhas := Lib.hid (refhas_any _ _ x wr hit)
          have hput := Lib.hid (put_any _ _ x y wr hit (by omega))
          have Hown2 := Lib.hid hown2
          have Hb2 := Lib.hid hb2
          obtain ⟨oa, oc, rfl⟩ := own_slice hown2
          clear g1 g2 hc2 hnx hol hit hown2 hb2 hown hb
          cases hH : hasK o2 x with
          | true =>
            rw [hH] at hhas
            have hfin : Hid (oneRow o (r.take (t + 1)) = o2) := by show _ = _; rw [Hnx.out]; simp [oneStep, hH]
            clear hH
            go_wp2_with fail
            refine hhas.out.mono ?_
            rintro e w' ⟨rfl, rfl⟩
            go_wp2
            go_roundw
            case rel => exact ⟨t + 1, by omega, by go_num, by rw [hfin.out]; exact Hown2.out, Hb2.out⟩
            case measure => simp [intOf]; omega
          | false =>
            rw [hH] at hhas
            have hfin : Hid (oneRow o (r.take (t + 1)) = putL o2 (x, y)) := by show _ = _; rw [Hnx.out]; simp [oneStep, hH]
            clear hH
            go_wp2_with fail
            refine hhas.out.mono ?_
            rintro e w' ⟨rfl, rfl⟩
            go_wp2_with fail
            refine hput.out.mono ?_
            rintro e w5 ⟨x5, rfl, ho5, hb5⟩
            have Ho5 := Lib.hid (own_mono ho5 hwr2)
            have Hb5 := Lib.hid (Hb2.out.trans (hb5.mono hwr2))
            clear ho5 hb5
            go_wp2
            go_roundw
            case rel => exact ⟨t + 1, by omega, by go_num, by rw [hfin.out]; exact Ho5.out, Hb5.out⟩
            case measure => simp [intOf]; omega
        · obtain rfl : t = kn := by omega
          have htk : r.take t = r := by rw [Hkn.out, List.take_length]
          rw [htk] at hown2
          have hle2 := oneRow_le r o
          have Hown2 := Lib.hid hown2
          have hle3 : (oneRow o r).length ≤ 1000 * (k + 1) := by have := Hkn.out; omega
          have Hle3 := Lib.hid hle3
          clear htk hown2 hle2 hle3 hown
          go_wp2
          go_roundw
          case rel => exact ⟨k + 1, by omega, by go_num, by rw [hnext.out]; exact Hown2.out, by rw [hnext.out]; exact Hle3.out, hb2⟩
          case measure => simp [intOf]; omega
    · obtain rfl : k = n := by omega
      have h2 := hown
      rw [Hn.out, List.take_length] at h2
      have H2 := Lib.hid h2
      clear hown h2
      go_wp2
      go_ret
      exact ⟨_, rfl, H2.out, hb⟩
end Go.Proofs.Ytcgkpbhoiaeolaa.Tithe
