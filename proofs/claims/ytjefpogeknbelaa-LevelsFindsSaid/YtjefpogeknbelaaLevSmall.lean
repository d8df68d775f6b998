/- The law's small: walked. -/
import Derived.Test.YtjefpogeknbelaaLevTurn
import Derived.Test.YtjefpogeknbelaaLevOpen
import Derived.Test.YtjefpogeknbelaaLevAppI
namespace Go.Proofs.Ytjefpogeknbelaa.Tithe
open Go.RowKit Go.Sort Go.Shelf
set_option linter.unusedVariables false
set_option linter.unusedSimpArgs false
set_option maxRecDepth 100000
def plSmall (p : Int × Mr) : Bool := decide (p.2.1.refs.length ≤ 20) && (decide (p.2.1.a.u.size ≤ 200) && decide (p.2.1.b.u.size ≤ 200))
def edSmall (e : Ed) : Bool := decide (e.ps.length ≤ 10) && (decide (e.zs.length ≤ 10) && e.ps.all plSmall)
def smallB (l : List Ed) : Bool := l.all edSmall && decide (l.length ≤ 40)
theorem plSmall_no {p : Int × Mr} (h : 20 < p.2.1.refs.length ∨ 200 < p.2.1.a.u.size ∨ 200 < p.2.1.b.u.size) : plSmall p = false := by
  unfold plSmall
  rcases h with h | h | h
  · rw [decide_eq_false (by omega)]; rfl
  · rw [decide_eq_false (show ¬ p.2.1.a.u.size ≤ 200 by omega), Bool.false_and, Bool.and_false]
  · rw [decide_eq_false (show ¬ p.2.1.b.u.size ≤ 200 by omega), Bool.and_false, Bool.and_false]
theorem all_step {α : Type} {f : α → Bool} {l : List α} {k : Nat} {x : α} (hx : l[k]? = some x) (h : (l.take k).all f = true) (hf : f x = true) : (l.take (k + 1)).all f = true := by
  rw [List.take_add_one, hx, List.all_append, h]
  show (true && (f x && true)) = true
  rw [hf]; rfl
theorem all_bad {α : Type} {f : α → Bool} {l : List α} {k : Nat} {x : α} (hx : l[k]? = some x) (hf : f x = false) : l.all f = false := by
  rw [List.all_eq_false]
  exact ⟨x, List.mem_of_getElem? hx, by rw [hf]; decide⟩
theorem smallB_bad {l : List Ed} {k : Nat} {x : Ed} (hx : l[k]? = some x) (hf : edSmall x = false) : smallB l = false := by
  unfold smallB; rw [all_bad hx hf]; rfl
theorem edSmall_bad {e : Ed} {k : Nat} {p : Int × Mr} (hx : e.ps[k]? = some p) (hf : plSmall p = false) : edSmall e = false := by
  unfold edSmall; rw [all_bad hx hf, Bool.and_false, Bool.and_false]
theorem isEd_row {w W : World} {b off : Nat} {l : List Ed} (h : ∀ i x, l[i]? = some x → ∀ j y, (edC x)[j]? = some y → w.cell? ⟨b, off + i * 2 + j, none⟩ = some y) (hb : Below w.heap.size w W) {i : Nat} {x : Ed} (hx : l[i]? = some x) : W.cell? ⟨b, off + i * 2, none⟩ = some x.va ∧ W.cell? ⟨b, off + i * 2 + 1, none⟩ = some x.vd :=
  ⟨(hb.cell (block_lt_of_cell (h i x hx 0 _ rfl))).trans (h i x hx 0 _ rfl), (hb.cell (block_lt_of_cell (h i x hx 1 _ rfl))).trans (h i x hx 1 _ rfl)⟩
attribute [local go_sem] Oper.semAt_some
set_option maxHeartbeats 3200000 in
theorem small_any (v : Value) (l : List Ed) (w : World) (h : IsEd w v l) :
    Calls Try.prog 15 #[v] w fun e w' => e = .returned (.bool (smallB l)) ∧ Below w.heap.size w w' := by
  obtain ⟨aa, ac, rfl, -, -, -⟩ := id h.1
  obtain ⟨-, hac, ham, hax⟩ := h.1.at
  have Hax := Lib.hid hax
  have Hin := Lib.hid h.2
  obtain ⟨m, hm⟩ : ∃ m, m = l.length := ⟨_, rfl⟩
  rw [← hm] at hac ⊢
  have Hm := Lib.hid hm
  clear h hax hm
  go_enter Try.func15, Try.ntmps15
  go_wp2
  go_loopw [9] (fun kv wr => ∃ k : Nat, k ≤ m ∧ kv = .int .i64 k ∧ (l.take k).all edSmall = true ∧ Below w.heap.size w wr) (fun kv _ => m - (intOf kv).toNat)
  case atStart => exact ⟨0, Nat.zero_le _, rfl, by simp, Below.refl _ _⟩
  case round =>
    obtain ⟨wo, rfl⟩ : ∃ wo : World, wo = wr := ⟨_, rfl⟩
    obtain ⟨k, hk, rfl, hall, hb⟩ := hrel
    have Hall := Lib.hid hall
    have Hb := Lib.hid hb
    have hsz := hb.size
    clear hall hb
    by_cases hkm : k < m
    · obtain ⟨b, off, rfl, hcell⟩ := Hax.out (by rw [← Hm.out]; omega)
      obtain ⟨e, he⟩ : ∃ e, l[k]? = some e := ⟨_, List.getElem?_eq_getElem (by rw [← Hm.out]; exact hkm)⟩
      obtain ⟨d0, d1⟩ := isEd_row hcell Hb.out he
      obtain ⟨hpl, hdz⟩ := Hin.out e (List.mem_of_getElem? he)
      obtain ⟨va, vd, ps, zs⟩ := e
      dsimp only at d0 d1 hpl hdz
      obtain ⟨pa, pc, rfl, -, -, -⟩ := id hpl.1
      obtain ⟨za, zc, rfl, -, -, -⟩ := id hdz
      obtain ⟨-, hpc, hpm, hpx⟩ := hpl.1.at
      have Hpx := Lib.hid hpx
      have Hrr := Lib.hid hpl.2
      have He := Lib.hid he
      obtain ⟨np, hnp⟩ : ∃ np, np = ps.length := ⟨_, rfl⟩
      obtain ⟨nz, hnz⟩ : ∃ nz, nz = zs.length := ⟨_, rfl⟩
      rw [← hnp] at d0 hpc
      rw [← hnz] at d1
      have Hnp := Lib.hid hnp
      have Hnz := Lib.hid hnz
      have HB := Lib.hid ((Hb.out.alloc hsz (.cells #[.slice pa np pc, .slice za nz zc] 43)))
      have hbs2 := HB.out.size
      clear hcell he hpl hdz hpx hnp hnz
      by_cases hp10 : 10 < np
      · have hd1 : decide ((np : Int) > 10) = true := decide_eq_true (by omega)
        have hd2 : decide (10 < (np : Int)) = true := decide_eq_true (by omega)
        have HE : Hid (smallB l = false) := Lib.hid (smallB_bad He.out (by unfold edSmall; dsimp only; rw [← Hnp.out, decide_eq_false (by omega)]; rfl))
        go_wp2_with fail
        go_ret
        exact ⟨by rw [HE.out]; rfl, HB.out⟩
      · have hd1 : decide ((np : Int) > 10) = false := decide_eq_false (by omega)
        have hd2 : decide (10 < (np : Int)) = false := decide_eq_false (by omega)
        by_cases hz10 : 10 < nz
        · have hd3 : decide ((nz : Int) > 10) = true := decide_eq_true (by omega)
          have hd4 : decide (10 < (nz : Int)) = true := decide_eq_true (by omega)
          have HE : Hid (smallB l = false) := Lib.hid (smallB_bad He.out (by unfold edSmall; dsimp only; rw [← Hnz.out, decide_eq_false (show ¬ nz ≤ 10 by omega), Bool.false_and, Bool.and_false]))
          go_wp2_with fail
          go_ret
          exact ⟨by rw [HE.out]; rfl, HB.out⟩
        · have hd3 : decide ((nz : Int) > 10) = false := decide_eq_false (by omega)
          have hd4 : decide (10 < (nz : Int)) = false := decide_eq_false (by omega)
          go_wp2_with fail
          go_loopw [26] (fun iv wr => ∃ i : Nat, i ≤ np ∧ iv = .int .i64 i ∧ (ps.take i).all plSmall = true ∧ Below w.heap.size w wr) (fun iv _ => np - (intOf iv).toNat)
          case atStart => exact ⟨0, Nat.zero_le _, rfl, by simp, HB.out⟩
          case round =>
            obtain ⟨wq, rfl⟩ : ∃ wq : World, wq = wr := ⟨_, rfl⟩
            obtain ⟨i, hi, rfl, hall2, hb2⟩ := hrel
            have Hall2 := Lib.hid hall2
            have Hb2 := Lib.hid hb2
            have hsz2 := hb2.size
            clear hall2 hb2 d0 d1 HB
            by_cases hin : i < np
            · obtain ⟨b3, off3, rfl, hcell3⟩ := Hpx.out (by rw [← Hnp.out]; omega)
              obtain ⟨p, hp⟩ : ∃ p, ps[i]? = some p := ⟨_, List.getElem?_eq_getElem (by rw [← Hnp.out]; exact hin)⟩
              obtain ⟨e0, e1, e2, e3, e4, e5, e6, e7, e8, e9⟩ := IsPl.row (w := wq) (fun i x hi y z hz => (Hb2.out.cell (block_lt_of_cell (hcell3 i x hi y z hz))).trans (hcell3 i x hi y z hz)) hp
              have hrp := Hrr.out p (List.mem_of_getElem? hp)
              have Hp := Lib.hid hp
              obtain ⟨lv, ⟨⟨mz, mn, ⟨au, asq, ak⟩, ⟨bu, bs, bk⟩, refs⟩, vr⟩⟩ := p
              dsimp only at e0 e1 e2 e3 e4 e5 e6 e7 e8 e9 hrp
              obtain ⟨ra, rc, hrv, -, -, -⟩ := id hrp
              obtain ⟨rn, hrn⟩ : ∃ rn, rn = refs.length := ⟨_, rfl⟩
              rw [← hrn] at hrv
              subst hrv
              have Hrn := Lib.hid hrn
              obtain ⟨ua, hua⟩ : ∃ ua, ua = au.size := ⟨_, rfl⟩
              obtain ⟨ub, hub⟩ : ∃ ub, ub = bu.size := ⟨_, rfl⟩
              have Hbw := Lib.hid (Hb2.out.alloc hsz2 (.cells #[.int .i64 lv, .int .i64 mz, .int .i64 mn, .string au, .int .i64 asq, .int .i64 ak, .string bu, .int .i64 bs, .int .i64 bk, .slice ra rn rc] 78))
              clear hcell3 hp hrp hrn
              have Hbad : Hid (20 < rn ∨ 200 < ua ∨ 200 < ub → smallB l = false) := Lib.hid (fun q => smallB_bad He.out (edSmall_bad Hp.out (plSmall_no (by dsimp only; rw [← Hrn.out, ← hua, ← hub]; exact q))))
              have Hgd : Hid (rn ≤ 20 → ua ≤ 200 → ub ≤ 200 → (ps.take (i + 1)).all plSmall = true) := Lib.hid (fun q1 q2 q3 => all_step Hp.out Hall2.out (by unfold plSmall; dsimp only; rw [← Hrn.out, ← hua, ← hub, decide_eq_true q1, decide_eq_true q2, decide_eq_true q3]; rfl))
              by_cases h1 : 20 < rn
              · have f1 : decide ((rn : Int) > 20) = true := decide_eq_true (by omega)
                have f2 : decide (20 < (rn : Int)) = true := decide_eq_true (by omega)
                have HE := Lib.hid (Hbad.out (.inl h1))
                clear Hbad Hgd hua hub
                go_wp2_with fail
                go_ret
                exact ⟨by rw [HE.out]; rfl, Hbw.out⟩
              · have f1 : decide ((rn : Int) > 20) = false := decide_eq_false (by omega)
                have f2 : decide (20 < (rn : Int)) = false := decide_eq_false (by omega)
                by_cases h2 : 200 < ua
                · have g1 : decide ((au.size : Int) > 200) = true := decide_eq_true (by omega)
                  have g2 : decide (200 < (au.size : Int)) = true := decide_eq_true (by omega)
                  have HE := Lib.hid (Hbad.out (.inr (.inl h2)))
                  clear Hbad Hgd hua hub
                  go_wp2_with fail
                  go_ret
                  exact ⟨by rw [HE.out]; rfl, Hbw.out⟩
                · have g1 : decide ((au.size : Int) > 200) = false := decide_eq_false (by omega)
                  have g2 : decide (200 < (au.size : Int)) = false := decide_eq_false (by omega)
                  by_cases h3 : 200 < ub
                  · have k1 : decide ((bu.size : Int) > 200) = true := decide_eq_true (by omega)
                    have k2 : decide (200 < (bu.size : Int)) = true := decide_eq_true (by omega)
                    have HE := Lib.hid (Hbad.out (.inr (.inr h3)))
                    clear Hbad Hgd hua hub
                    go_wp2_with fail
                    go_ret
                    exact ⟨by rw [HE.out]; rfl, Hbw.out⟩
                  · have k1 : decide ((bu.size : Int) > 200) = false := decide_eq_false (by omega)
                    have k2 : decide (200 < (bu.size : Int)) = false := decide_eq_false (by omega)
                    have HG := Lib.hid (Hgd.out (by omega) (by omega) (by omega))
                    clear Hbad Hgd hua hub
                    go_wp2_with fail
                    go_roundw
                    case rel => exact ⟨i + 1, by omega, by go_num, HG.out, Hbw.out⟩
                    case measure => simp [intOf]; omega
            · obtain rfl : i = np := by omega
              have HE : Hid (edSmall ⟨.slice pa i pc, .slice za nz zc, ps, zs⟩ = true) := Lib.hid (by
                unfold edSmall
                dsimp only
                have := Hall2.out
                rw [Hnp.out, List.take_length] at this
                rw [← Hnp.out, ← Hnz.out, decide_eq_true (show i ≤ 10 by omega), decide_eq_true (show nz ≤ 10 by omega), this]; rfl)
              have HG : Hid ((l.take (k + 1)).all edSmall = true) := Lib.hid (all_step He.out Hall.out (by have := HE.out; rw [Hnp.out, Hnz.out] at this; exact this))
              go_wp2_with fail
              go_roundw
              case rel => exact ⟨k + 1, by omega, by go_num, HG.out, Hb2.out⟩
              case measure => simp [intOf]; omega
    · obtain rfl : k = m := by omega
      have HE : Hid (smallB l = decide ((k : Int) ≤ 40)) := Lib.hid (by
        have := Hall.out
        rw [Hm.out, List.take_length] at this
        unfold smallB
        rw [this, ← Hm.out, Bool.true_and]
        by_cases q : k ≤ 40
        · rw [decide_eq_true q, decide_eq_true (by omega)]
        · rw [decide_eq_false q, decide_eq_false (by omega)])
      go_wp2_with fail
      go_ret
      exact ⟨by rw [HE.out]; rfl, Hb.out⟩
end Go.Proofs.Ytjefpogeknbelaa.Tithe
