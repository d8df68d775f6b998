/- The law FlatStays: walked. -/
import Derived.Test.YtbnodgoccmhjkaaFlatMove
import Derived.Test.YtbnodgoccmhjkaaFlatGets
namespace Go.Proofs.Ytbnodgoccmhjkaa.Tithe
open Go.RowKit Go.Sort Go.Shelf
set_option linter.unusedVariables false
set_option linter.unusedSimpArgs false
set_option maxRecDepth 100000
theorem KeepN.ty {sm im : Nat} {W W' : World} (h : KeepN sm im W W') : KeptTy 40 W W' := fun b cs fr hb => h b _ hb (fun cs fr => cells_ne (by decide)) (fun cs fr => cells_ne (by decide)) (fun cs fr => cells_ne (by decide)) (fun ⟨es, ck, e⟩ => by cases e)
theorem OwnO.keep {sm im : Nat} {W W' : World} {v : Value} {l : List Bo} (h : OwnO W v l) (hk : KeepN sm im W W') : OwnO W' v l := own_for h hk.ty
/-- a write -/
theorem MS.write {W W' : World} {lo base mb : Nat} {most : Int} {rows rows' : List Wr} {sm im hd : Nat} {S : Int → Option Int} {zs : Nat} {P : Int → Option Nat} {zi : Nat} {L : Nat → List Bo} {A : Nat → Int} (h : MS W lo base mb most rows sm im hd S zs P zi L A) (hm : IsMo W' base mb most rows' sm im hd) (hk : KeepM W W') : MS W' lo base mb most rows' sm im hd S zs P zi L A := by
  obtain ⟨es, ck, hs⟩ := h.sn.map
  obtain ⟨es', ck', hi⟩ := h.itr.map
  have k1 : KeptTy 85 W W' := fun b cs fr hb => hk b _ hb (fun cs fr => cells_ne (by decide)) (fun cs fr => cells_ne (by decide))
  have k2 : KeptTy 40 W W' := fun b cs fr hb => hk b _ hb (fun cs fr => cells_ne (by decide)) (fun cs fr => cells_ne (by decide))
  exact ⟨hm, h.sn.of_blk ((hk sm _ hs (fun cs fr e => by cases e) (fun cs fr e => by cases e)).trans hs.symm), h.itr.of_blk ((hk im _ hi (fun cs fr e => by cases e) (fun cs fr e => by cases e)).trans hi.symm), h.ne, h.los, h.loi, h.lom,
    fun q b hq => ⟨(h.wk q b hq).1.ty k1 k2, (h.wk q b hq).2⟩, h.sh, h.inj⟩
/-- what is known of the writes behind a fill and more -/
structure MoreOk (rm rows : List Wr) (k : Nat) : Prop where
  pre : (opsOf rows).take rm.length = opsOf rm
  len : rows.length ≤ rm.length + k
  le : rm.length ≤ rows.length
  sm : ∀ r ∈ rows, r.2.length ≤ 70 ∧ ∀ x ∈ r.2, x.u.size ≤ 200 ∧ x.v.size ≤ 500
theorem MoreOk.last {rm rows : List Wr} {k : Nat} (h : MoreOk rm rows k) (hk : k ≤ 15) (hl : rm.length ≤ 20) : lastN rows ≤ 1000000 ∧ rows.length ≤ 1000 := by
  have h1 := flatten_le (L := opsOf rows) (B := 70) (fun l hl => by
    unfold opsOf at hl
    obtain ⟨r, hr, rfl⟩ := List.mem_map.1 hl
    exact (h.sm r hr).1)
  have h2 := h.len
  rw [opsOf_len] at h1
  have h3 : lastN rows = (opsOf rows).flatten.length := by
    rw [lastN_ops]; unfold sumN; rw [List.length_flatten]
  rw [h3]
  omega
theorem MoreOk.push {rm rows : List Wr} {k : Nat} (h : MoreOk rm rows k) (r : Wr) (hr : r.2.length ≤ 70 ∧ ∀ x ∈ r.2, x.u.size ≤ 200 ∧ x.v.size ≤ 500) : MoreOk rm (rows ++ [r]) (k + 1) := by
  refine ⟨?_, ?_, ?_, fun q hq => ?_⟩
  · rw [opsOf_snoc, List.take_append_of_le_length (by rw [opsOf_len]; exact h.le)]
    exact h.pre
  · have := h.len; rw [List.length_append, List.length_singleton]; omega
  · have := h.le; rw [List.length_append, List.length_singleton]; omega
  · rcases List.mem_append.1 hq with e | e
    · exact h.sm q e
    · rw [List.mem_singleton.1 e]; exact hr
theorem MoreOk.more {rm rows : List Wr} {k : Nat} (h : MoreOk rm rows k) : MoreOk rm rows (k + 1) := ⟨h.pre, by have := h.len; omega, h.le, h.sm⟩
theorem MoreOk.flat {rm rows : List Wr} {k : Nat} (h : MoreOk rm rows k) : flatO rows (min ((rm.length : Nat) : Int).toNat rows.length) = flatO rm (min ((rm.length : Nat) : Int).toNat rm.length) := by
  have := h.le
  rw [Int.toNat_natCast, Nat.min_eq_left this, Nat.min_self]
  unfold flatO
  rw [h.pre, List.take_of_length_le (by rw [opsOf_len]; exact Nat.le_refl _)]
attribute [local go_sem] Oper.semAt_some
set_option maxHeartbeats 12800000 in
theorem flatStays_walk (most : Int) (v1 : Value) (rows : List Wr) (v2 : Value) (rows2 : List Wr) (w : World) (hmo : (Lit.int .i64 most).wf = true) (h : IsWs w v1 rows) (h2 : IsWs w v2 rows2) :
    Calls Try.prog 5 #[.int .i64 most, v1, v2] w fun e w' => e = .returned (.bool true) ∧ Below w.heap.size w w' := by
  clear hmo
  have H := Lib.hid h
  have H2 := Lib.hid h2
  have Hsm := Lib.hid (small_any v1 rows 15 w h)
  have Hsm2 := Lib.hid (fun (A : World) (hA : Below w.heap.size w A) => small_any v2 rows2 15 A (h2.below hA))
  clear h h2
  by_cases hsb : smallB rows 15 = true
  · by_cases hsb2 : smallB rows2 15 = true
    · have Hsb := Lib.hid hsb
      obtain ⟨hf1, hf2⟩ := smallB_facts hsb
      obtain ⟨hg1, hg2⟩ := smallB_facts hsb2
      have Hf2 := Lib.hid hf2
      have Hg2 := Lib.hid hg2
      rw [hsb] at Hsm
      rw [hsb2] at Hsm2
      have hlen : rows.length ≤ 20 := by omega
      have hlen2 : rows2.length ≤ 15 := by omega
      clear hf1 hf2 hg1 hg2 hsb hsb2
      go_enter Try.func5, Try.ntmps5
      go_wp2_with fail
      refine Hsm.out.mono ?_
      rintro e w1 ⟨rfl, hb1⟩
      have Hb1 := Lib.hid hb1
      clear hb1 Hsm
      go_wp2_with fail
      refine (Hsm2.out _ Hb1.out).mono ?_
      rintro e w1b ⟨rfl, hb1⟩
      have Hb1b := Lib.hid (Hb1.out.trans (hb1.mono Hb1.out.size))
      clear hb1 Hsm2 Hb1
      go_wp2_with fail
      refine (fill_any most v1 rows _ (H.out.below Hb1b.out) hlen Hf2.out).mono ?_
      intro e w2 hfill
      obtain ⟨mb, xb, B, rm, rx, rfl, hD, he, hms, hmi, hmb⟩ := hfill.out
      obtain ⟨hrl, hfl, hfs, hfsr⟩ := fill_small Hsb.out (by omega) he rm.length
      have Hb2 := Lib.hid (Hb1b.out.trans (hD.bel.mono Hb1b.out.size))
      obtain ⟨a, c, hB, hO⟩ := hD.mo.ex
      have hfl2 : (flatO rm (min ((rm.length : Nat) : Int).toNat rm.length)).length ≤ 100000 := by rw [Int.toNat_natCast, Nat.min_self]; exact hfl
      have hfs2 : ∀ x ∈ flatO rm (min ((rm.length : Nat) : Int).toNat rm.length), x.u.size ≤ 100000 ∧ x.v.size ≤ 100000 := by rw [Int.toNat_natCast, Nat.min_self]; exact fun x hx => by have := hfs x hx; omega
      obtain ⟨lo, hlo⟩ : ∃ q, q = w1b.heap.size := ⟨_, rfl⟩
      rw [← hlo] at hD hms hmi hmb
      have hbl : B ≤ w2.heap.size := hD.mo.le
      have hmB : mb < B := hD.mo.lt
      have hM0 : MS w2 lo B mb most rm lo (lo + 1) 0 (fun _ => none) 0 (fun _ => none) 0 (fun _ => []) (fun _ => 0) := ⟨hD.mo, OwnsF.of_empty hms, OwnsF.of_empty hmi, by omega, Nat.le_refl _, by omega, by omega, (fun q b hq => by cases hq), (fun q n hq => by cases hq), (fun q q' b hq => by cases hq)⟩
      obtain ⟨F, hF⟩ : ∃ F, F = foldF (flatO rm (min ((rm.length : Nat) : Int).toNat rm.length)) := ⟨_, rfl⟩
      have hsc := fun (A : World) (hA : Below w2.heap.size w2 A) => scan_yes mb ⟨#[]⟩ ⟨#[]⟩ 0 (rm.length : Nat) most _ a c rm _ _ 0 A (blk_bels hA hB) (hO.isWs.below hA) (by omega) hfl2 hfs2 (fun X hX => at0_any X mb most _ a _ c _ _ 0 (blk_bels (hA.trans (hX.mono hA.size)) hB))
      rw [← hF] at hsc
      have Hfl := Lib.hid hfl2
      have Hfs := Lib.hid hfs2
      have Hsc := Lib.hid hsc
      have HM0 := Lib.hid hM0
      have HF := Lib.hid hF
      have Hrf := Lib.hid hfsr
      have Hlo : Hid (w.heap.size ≤ lo) := Lib.hid (by rw [hlo]; exact Hb1b.out.size)
      have Hlo2 : Hid (lo ≤ w2.heap.size) := Lib.hid (by omega)
      have Hmk0 : Hid (MoreOk rm rm 0) := Lib.hid ⟨by rw [List.take_of_length_le (by rw [opsOf_len]; exact Nat.le_refl _)], by omega, Nat.le_refl _, hfsr⟩
      clear hfill hD he hms hmi hmb hB hO hfl hfs hfl2 hfs2 hM0 hF hsc hfsr hlo hbl hmB Hf2 Hsb H
      go_wp2_with fail
      refine (Hsc.out w2 (Below.refl _ _)).mono ?_
      rintro e w3 ⟨vw, ks, rfl, hks, hkl, hown, hb3⟩
      rw [left_all, outO_len] at hown
      obtain ⟨wa, wc, rfl⟩ := own_slice hown
      obtain ⟨l, hl⟩ : ∃ l, l = outO F ks := ⟨_, rfl⟩
      obtain ⟨n, hn⟩ : ∃ n, n = ks.length := ⟨_, rfl⟩
      rw [← hl, ← hn] at hown
      rw [← hn] at hkl
      have hln : l.length = n := by rw [hl, outO_len, hn]
      have HW3 : Hid (OwnO w3 (.slice wa n wc) l) := Lib.hid (by unfold OwnO; rw [hln]; exact own_mono hown (Nat.zero_le _))
      have HM3 := Lib.hid (HM0.out.bel hb3)
      have HlW : Hid (lo ≤ w3.heap.size) := Lib.hid (Nat.le_trans Hlo2.out hb3.size)
      have Hb3 := Lib.hid (Hb2.out.trans (hb3.mono Hb2.out.size))
      have Hsn := Lib.hid (snap_yes HM3.out (by decide) (by decide) (by omega))
      have Hks := Lib.hid hks
      have Hl := Lib.hid hl
      have Hn := Lib.hid hn
      have Hln := Lib.hid hln
      rw [← Hn.out]
      clear hks hown hb3 hl hn hln HM0 Hsc
      go_wp2_with fail
      refine Hsn.out.mono ?_
      rintro e w4 ⟨rfl, h4⟩
      obtain ⟨hM4, hk4, hb4⟩ := h4.out
      have HM4 := Lib.hid hM4
      have HW4 := Lib.hid (HW3.out.keep hk4)
      have Hb4 := Lib.hid (Hb3.out.trans (hb4.mono Hlo.out))
      have Hl4 := Lib.hid (Nat.le_trans HlW.out hb4.size)
      obtain ⟨a4, c4, hB4, hO4⟩ := hM4.mo.ex
      have hsc4 := scan_yes mb ⟨#[]⟩ ⟨#[]⟩ 0 (rm.length : Nat) most _ a4 c4 rm _ _ _ w4 hB4 hO4.isWs (by omega) (by rw [← Hmk0.out.flat]; exact Hfl.out) (by rw [← Hmk0.out.flat]; exact Hfs.out) (fun X hX => at0_any X mb most _ a4 _ c4 _ _ _ (blk_bels hX hB4))
      rw [← HF.out] at hsc4
      have Hit := Lib.hid (iter_yes HM4.out (by decide) (by decide) Hl4.out 0 (rm.length : Nat) F hsc4)
      clear h4 hM4 hk4 hb4 hB4 hO4 hsc4 HM3 HW3 HlW Hb3 Hsn
      go_wp2_with fail
      refine Hit.out.mono ?_
      rintro e w5 ⟨b, ks5, rfl, hks5, -, -, hM5, hk5, hb5⟩
      obtain rfl : ks = ks5 := keys_uniq Hks.out hks5
      rw [← Hl.out] at hM5
      obtain ⟨S', hS'⟩ : ∃ S' : Int → Option Int, S' = updF (fun _ => none) ((0 + 1 : Nat) : Int) (some (rm.length : Int)) := ⟨_, rfl⟩
      obtain ⟨P', hP'⟩ : ∃ P' : Int → Option Nat, P' = updF (fun _ => none) ((0 + 1 + 1 : Nat) : Int) (some b) := ⟨_, rfl⟩
      obtain ⟨L', hL'⟩ : ∃ L' : Nat → List Bo, L' = updW (fun _ => []) b l := ⟨_, rfl⟩
      obtain ⟨A', hA'⟩ : ∃ A' : Nat → Int, A' = updA (fun _ => 0) b (-1) := ⟨_, rfl⟩
      rw [← hS', ← hP', ← hL', ← hA'] at hM5
      have HS1 : Hid (S' 1 = some (rm.length : Int)) := Lib.hid (by rw [hS']; rfl)
      have HP2 : Hid (P' 2 = some b) := Lib.hid (by rw [hP']; rfl)
      have HLb : Hid (L' b = l) := Lib.hid (by rw [hL']; unfold updW; rw [if_pos rfl])
      have HAb : Hid (A' b = -1) := Lib.hid (by rw [hA']; unfold updA; rw [if_pos rfl])
      have HM5 := Lib.hid hM5
      have HW5 := Lib.hid (HW4.out.keep hk5)
      have Hb5 := Lib.hid (Hb4.out.trans (hb5.mono Hlo.out))
      have Hl5 := Lib.hid (Nat.le_trans Hl4.out hb5.size)
      clear hks5 hM5 hk5 hb5 hS' hP' hL' hA' HM4 HW4 Hb4 Hl4 Hit
      obtain ⟨hsl2, hrr2⟩ := H2.out
      obtain ⟨a2, c2, rfl, -, -, -⟩ := id hsl2
      obtain ⟨-, hc2, hm2, hx2⟩ := hsl2.at
      obtain ⟨m, hm⟩ : ∃ m, m = rows2.length := ⟨_, rfl⟩
      rw [← hm] at hc2 hx2 hlen2 ⊢
      have Hx2 := Lib.hid hx2
      have Hr2 := Lib.hid hrr2
      have Hm := Lib.hid hm
      clear hsl2 hrr2 hx2 hm
      go_wp2_with fail
      go_loopw [59] (fun iv wr => ∃ k : Nat, k ≤ m ∧ iv = .int .i64 k ∧ Hid (∃ rows', MS wr lo B mb most rows' lo (lo + 1) 2 S' 1 P' 1 L' A' ∧ MoreOk rm rows' k) ∧ Hid (OwnO wr (.slice wa n wc) l) ∧ Hid (Below w.heap.size w wr) ∧ Hid (lo ≤ wr.heap.size)) (fun iv _ => m - (intOf iv).toNat)
      case atStart => exact ⟨0, Nat.zero_le _, rfl, Lib.hid ⟨rm, HM5.out, Hmk0.out⟩, HW5, Hb5, Hl5⟩
      case round =>
        clear HM5 HW5 Hb5 Hl5
        obtain ⟨wo, rfl⟩ : ∃ wo : World, wo = wr := ⟨_, rfl⟩
        obtain ⟨k, hk, rfl, hM, hW, hb, hll⟩ := hrel
        by_cases hkm : k < m
        · obtain ⟨be, off, rfl, hcell⟩ := Hx2.out (by omega)
          obtain ⟨r, hrk⟩ : ∃ r, rows2[k]? = some r := ⟨_, List.getElem?_eq_getElem (by rw [← Hm.out]; omega)⟩
          have d0 : wo.cell? ⟨be, off + k, none⟩ = some r.1 := by
            have := hcell k r hrk 0 _ rfl
            rw [Nat.mul_one, Nat.add_zero] at this
            exact (hb.out.cell (block_lt_of_cell this)).trans this
          have hrm := List.mem_of_getElem? hrk
          have hro := (Hr2.out r hrm).below hb.out
          have hrs := Hg2.out r hrm
          obtain ⟨rows', hM', hMk⟩ := hM.out
          have hla := hMk.last (by omega) hrl
          have hwr := mwrite_any wo B mb most rows' lo (lo + 1) ((2 : Nat) : Int) r.1 r.2 hM'.mo hro hrs.2 (by have := hrs.1; omega) hla.2 hla.1
          have Hwr := Lib.hid hwr
          have HM' := Lib.hid hM'
          have HMk := Lib.hid hMk
          have Hrs := Lib.hid hrs
          obtain ⟨rv, lr⟩ := r
          dsimp only at d0 Hwr hro Hrs
          obtain ⟨ra, rc, rfl, -, -, -⟩ := id hro
          have hkmi : (k : Int) < (m : Int) := by omega
          clear hcell hrk hrm hro hrs hM' hMk hla hwr hM
          go_wp2_with fail
          refine Hwr.out.mono ?_
          intro e w6 h6
          obtain ⟨rfl, h7, h8, h9, h10⟩ := h6.out
          have Hb6 := Lib.hid (hb.out.trans (h9.mono (Nat.le_trans Hlo.out HM'.out.lom)))
          have HW6 := Lib.hid (hW.out.keep (KeepN.of_keepM (sm := lo) (im := lo + 1) h10))
          have Hl6 := Lib.hid (Nat.le_trans hll.out h9.size)
          have HM6 : Hid (∃ rows', MS w6 lo B mb most rows' lo (lo + 1) 2 S' 1 P' 1 L' A' ∧ MoreOk rm rows' (k + 1)) := Lib.hid (by
            by_cases q : chkM most (lastN rows' : Nat) lr = 0
            · obtain ⟨val, hq⟩ := h7 q
              exact ⟨_, HM'.out.write hq h10, HMk.out.push (val, lr) Hrs.out⟩
            · exact ⟨_, HM'.out.write (h8 q) h10, HMk.out.more⟩)
          clear h6 h7 h8 h9 h10 d0 Hwr
          go_wp2_with fail
          go_roundw
          case rel => exact ⟨k + 1, by omega, by go_num, HM6, HW6, Hb6, Hl6⟩
          case measure => simp [intOf]; omega
        · obtain rfl : m = k := by omega
          obtain ⟨rows', hM', hMk⟩ := hM.out
          obtain ⟨a6, c6, hB6, hO6⟩ := hM'.mo.ex
          have hla := hMk.last (by omega) hrl
          have hsc6 := scan_yes mb ⟨#[]⟩ ⟨#[]⟩ 1 (rm.length : Nat) most _ a6 c6 rows' _ _ _ wo hB6 hO6.isWs (by omega) (by rw [hMk.flat]; exact Hfl.out) (by rw [hMk.flat]; exact Hfs.out) (fun X hX => (at_snap X mb most _ _ _ _ _ 1 S' _ (blk_bels hX hB6) (hM'.sn.below hX) (by decide) (by decide)).mono fun e w' ⟨⟨z, er, hz1, hz2⟩, hz3⟩ => by
            rw [HS1.out] at hz2
            obtain ⟨rfl, rfl⟩ := hz2
            exact ⟨hz1, hz3⟩)
          rw [hMk.flat, ← HF.out] at hsc6
          have Hs6 := Lib.hid hsc6
          have HM6 := Lib.hid hM'
          clear hM hM' hMk hB6 hO6 hla hsc6
          go_wp2_with fail
          refine Hs6.out.mono ?_
          rintro e w7 ⟨vn, ks7, rfl, hks7, -, hown7, hb7⟩
          obtain rfl : ks = ks7 := keys_uniq Hks.out hks7
          rw [left_all, outO_len, ← Hl.out, ← Hn.out] at hown7
          obtain ⟨na, nc, rfl⟩ := own_slice hown7
          have HN7 : Hid (OwnO w7 (.slice na n nc) l) := Lib.hid (by unfold OwnO; rw [Hln.out]; exact own_mono hown7 (Nat.zero_le _))
          have HW7 : Hid (OwnO w7 (.slice wa n wc) l) := Lib.hid (own_for hW.out (fun b cs fr hg => blk_bels hb7 hg))
          have HM7 := Lib.hid (HM6.out.bel hb7)
          have Hb7 := Lib.hid (hb.out.trans (hb7.mono hb.out.size))
          have Hl7 := Lib.hid (Nat.le_trans hll.out hb7.size)
          have hmv := move_yes HM7.out 2 1 ⟨#[]⟩ b (by decide) HP2.out (by decide) (by rw [HLb.out, Hln.out]; exact hkl) (by rw [HAb.out]; decide)
          obtain ⟨q0, hq0⟩ : ∃ q0 : Int, q0 = ((0 : Nat) : Int) := ⟨_, rfl⟩
          have Hq0 := Lib.hid hq0
          rw [HLb.out, HAb.out, show mvQ l 1 (-1) ⟨#[]⟩ = q0 from hq0.symm] at hmv
          clear hq0
          have Hmv := Lib.hid hmv
          clear hks7 hown7 hb7 hW hb hll HM6 Hs6 hmv
          go_wp2_with fail
          refine Hmv.out.mono ?_
          rintro e w8 ⟨rfl, hM8, hk8, hb8, hg8, hv8⟩
          rw [HLb.out] at hM8 hv8 ⊢
          obtain ⟨⟨vb, hvb, hvo⟩, hlb, -⟩ := hM8.wk 2 b HP2.out
          rw [show updA A' b (mvP l q0) b = mvP l q0 by unfold updA; rw [if_pos rfl]] at hvb
          have HM8 := Lib.hid hM8
          have HV8 := Lib.hid hvb
          have Hlb := Lib.hid hlb
          have HW8 := Lib.hid (HW7.out.keep hk8)
          have HN8 := Lib.hid (HN7.out.keep hk8)
          have Hb8 := Lib.hid (Hb7.out.trans (hb8.mono Hlo.out))
          have Hl8 := Lib.hid (Nat.le_trans Hl7.out hb8.size)
          obtain ⟨ob, hob⟩ : ∃ q, q = w8.heap.size := ⟨_, rfl⟩
          have hbo : b < ob := by rw [hob]; exact blk_lt hvb
          obtain ⟨W9, hW9⟩ : ∃ q, q = w8.alloc (.cells #[.int .i64 (mvX l q0).k, .string (mvX l q0).u, .string (mvX l q0).v] 40) := ⟨_, rfl⟩
          have hA9 : Below w8.heap.size w8 W9 := by rw [hW9]; exact (Below.refl _ _).alloc (Nat.le_refl _) _
          have HG9 := Lib.hid (bel_grownB hA9 b)
          have HV9 := Lib.hid (blk_bels hA9 hvb)
          have HO9 : Hid (W9.heap[ob]? = some (.cells #[.int .i64 (mvX l q0).k, .string (mvX l q0).u, .string (mvX l q0).v] 40 (0, 0))) := Lib.hid (by rw [hW9]; exact blk_newF hob.symm _)
          have HW9 := Lib.hid hW9
          have Hob := Lib.hid hob
          have Hbo := Lib.hid hbo
          clear hM8 hk8 hb8 hg8 hv8 hvb hvo hlb hob hbo hW9 hA9 HW7 HN7 HM7 Hb7 Hl7 Hmv
          go_wp2_with fail
          rw [← HW9.out, ← Hob.out]
          clear HW9
          go_loopw [21, 99] (fun sv iv wr => ∃ k : Nat, k ≤ n ∧ iv = .int .i64 k ∧ sv = .bool (mvIn l (k : Int)) ∧ Hid (w8.grownBy wr (some b)) ∧ Hid (wr.heap[b]? = some (.cells #[vb, .int .i64 (mvP l (k : Int))] 85 (0, 0))) ∧ Hid (wr.heap[ob]? = some (.cells #[.int .i64 (mvX l (k : Int)).k, .string (mvX l (k : Int)).u, .string (mvX l (k : Int)).v] 40 (0, 0)))) (fun _ iv _ => n - (intOf iv).toNat)
          case atStart => exact ⟨0, Nat.zero_le _, rfl, by rw [Hq0.out], HG9, by rw [← Hq0.out]; exact HV9, by rw [← Hq0.out]; exact HO9⟩
          case round =>
            clear HG9 HV9 HO9
            obtain ⟨wp, rfl⟩ : ∃ wp : World, wp = wr := ⟨_, rfl⟩
            obtain ⟨k, hk, rfl, rfl, hG, hV, hO⟩ := hrel
            by_cases hkn : k < n
            · obtain ⟨x, hx⟩ : ∃ x, l[k]? = some x := ⟨_, List.getElem?_eq_getElem (by rw [Hln.out]; exact hkn)⟩
              obtain ⟨i1, i2, i3⟩ := mv_in hx
              rw [i2] at hV
              rw [i3] at hO
              rw [i1]
              have hty : ∀ X : World, w8.grownBy X (some b) → KeptTy 40 w8 X := fun X hX q cs fr hq => by
                refine (hX.block q (blk_lt hq) (fun e => ?_)).trans hq
                injection e with e
                subst e
                rw [HV8.out] at hq
                cases hq
              have hWo := (show OwnO wp (.slice wa n wc) l from own_for HW8.out (hty _ hG.out)).isOs
              have hNo := (show OwnO wp (.slice na n nc) l from own_for HN8.out (hty _ hG.out)).isOs
              obtain ⟨-, hcw, hmw, hxw⟩ := hWo.at
              obtain ⟨-, hcn, hmn, hxn⟩ := hNo.at
              obtain ⟨bw, ow, rfl, hcew⟩ := hxw (by omega)
              obtain ⟨bn, on, rfl, hcen⟩ := hxn (by omega)
              obtain ⟨r0, r1, r2⟩ := IsOs.row hcew hx
              obtain ⟨s0, s1, s2⟩ := IsOs.row hcen hx
              have o0 := (cell_of_blk hO.out 0).trans (show _ = some (.int .i64 x.k) from rfl)
              have o1 := (cell_of_blk hO.out 1).trans (show _ = some (.string x.u) from rfl)
              have o2 := (cell_of_blk hO.out 2).trans (show _ = some (.string x.v) from rfl)
              obtain ⟨xk, xu, xv⟩ := x
              dsimp only at r0 r1 r2 s0 s1 s2 o0 o1 o2 hO
              have hkni : (k : Int) < (n : Int) := by omega
              clear hWo hNo hxw hxn hcew hcen hx i1 i2 i3 hty
              go_upto_region 21 with fail
              go_quiet (fail)
              rename_i nq
              have HGu := Lib.hid (grown_more hG.out (below_drewN (Below.refl _ _) nq))
              have HVu : Hid ((wp.drewN nq).heap[b]? = some (.cells #[vb, .int .i64 (k : Int)] 85 (0, 0))) := Lib.hid hV.out
              have HOu : Hid ((wp.drewN nq).heap[ob]? = some (.cells #[.int .i64 xk, .string xu, .string xv] 40 (0, 0))) := Lib.hid hO.out
              clear r0 r1 r2 s0 s1 s2 o0 o1 o2 hG hV hO
              generalize wp.drewN nq = U at *
              have hMu := HM8.out.moved HP2.out HV8.out HGu.out HVu.out
              have hmv := move_yes hMu 2 3 ⟨#[]⟩ b (by decide) HP2.out (by decide) (by rw [HLb.out, Hln.out]; exact hkl) (by unfold updA; rw [if_pos rfl]; omega)
              have hq : mvQ l 3 (updA (updA A' b (mvP l q0)) b (k : Int) b) ⟨#[]⟩ = ((k + 1 : Nat) : Int) := by
                unfold updA mvQ
                rw [if_pos rfl, if_neg (by decide), if_neg (by decide), if_pos rfl, if_neg (by omega)]
                rfl
              rw [HLb.out, hq] at hmv
              have Hmv := Lib.hid hmv
              clear hMu hmv hq
              go_wp2_with fail
              refine Hmv.out.mono ?_
              rintro e w9 ⟨rfl, -, hk9, -, hg9, hv9⟩
              rw [HLb.out] at hv9 ⊢
              have hG9 : w8.grownBy w9 (some b) := grown_trans' HGu.out hg9
              have hV9 := hv9 _ _ HVu.out
              have hO9 := hk9.ty _ _ _ HOu.out
              have o0 := (cell_of_blk hO9 0).trans (show _ = some (.int .i64 xk) from rfl)
              have o1 := (cell_of_blk hO9 1).trans (show _ = some (.string xu) from rfl)
              have o2 := (cell_of_blk hO9 2).trans (show _ = some (.string xv) from rfl)
              have f0 := frozen_of_blk hO9 0
              have f1 := frozen_of_blk hO9 1
              have f2 := frozen_of_blk hO9 2
              obtain ⟨y, hy⟩ : ∃ y, y = mvX l ((k + 1 : Nat) : Int) := ⟨_, rfl⟩
              obtain ⟨fy, hfy⟩ : ∃ fy, fy = mvIn l ((k + 1 : Nat) : Int) := ⟨_, rfl⟩
              rw [← hy, ← hfy]
              obtain ⟨yk, yu, yv⟩ := y
              dsimp only
              have hwo : w8.heap.size ≤ ob := by rw [Hob.out]; exact Nat.le_refl _
              have hbn : b ≠ ob := by have := Hbo.out; omega
              have HGe := Lib.hid (grown_newset (i := 2) (x := .string yv) (grown_newset (i := 1) (x := .string yu) (grown_newset (i := 0) (x := .int .i64 yk) hG9 hwo) hwo) hwo)
              have HVe := Lib.hid ((Below.heap_setCell _ ⟨ob, 2, none⟩ (.string yv) b hbn).trans ((Below.heap_setCell _ ⟨ob, 1, none⟩ (.string yu) b hbn).trans ((Below.heap_setCell _ ⟨ob, 0, none⟩ (.int .i64 yk) b hbn).trans hV9)))
              have e1 : (w9.setCell ⟨ob, 0, none⟩ (.int .i64 yk)).heap[ob]? = some (.cells #[.int .i64 yk, .string xu, .string xv] 40 (0, 0)) := (blk_set hO9).trans rfl
              have e2 : ((w9.setCell ⟨ob, 0, none⟩ (.int .i64 yk)).setCell ⟨ob, 1, none⟩ (.string yu)).heap[ob]? = some (.cells #[.int .i64 yk, .string yu, .string xv] 40 (0, 0)) := (blk_set e1).trans rfl
              have e3 : (((w9.setCell ⟨ob, 0, none⟩ (.int .i64 yk)).setCell ⟨ob, 1, none⟩ (.string yu)).setCell ⟨ob, 2, none⟩ (.string yv)).heap[ob]? = some (.cells #[.int .i64 yk, .string yu, .string yv] 40 (0, 0)) := (blk_set e2).trans rfl
              have HOe := Lib.hid e3
              have Hy := Lib.hid hy
              have Hfy := Lib.hid hfy
              clear hk9 hg9 hv9 hG9 hV9 hO9 hy hfy hwo hbn e1 e2 e3 HGu HVu HOu Hmv
              go_wp2_with fail
              go_roundw
              case rel => exact ⟨k + 1, by omega, by go_num, by rw [Hfy.out], HGe, HVe, by rw [← Hy.out]; exact HOe⟩
              case measure => simp [intOf]; omega
            · obtain rfl : n = k := by omega
              have hmo := mv_out (l := l) (q := (n : Int)) (.inr (by rw [Hln.out]; exact Int.le_refl _))
              rw [hmo.1]
              have Hfin := Lib.hid (Hb8.out.trans ((grown_below hG.out Hlb.out Hl8.out).mono Hlo.out))
              clear hG hV hO hmo
              go_wp2_with (go_at_call 8; refine (awake21_any _).mono ?_; rintro e w9 ⟨rfl, hb9⟩; have Hb9 := Lib.hid (Hfin.out.trans (hb9.mono Hfin.out.size)); clear hb9)
              go_ret
              exact ⟨rfl, Hb9.out⟩
    · have hs2 : smallB rows2 15 = false := by simpa using hsb2
      rw [hsb] at Hsm
      rw [hs2] at Hsm2
      clear hsb hsb2 hs2
      go_enter Try.func5, Try.ntmps5
      go_wp2_with fail
      refine Hsm.out.mono ?_
      rintro e w1 ⟨rfl, hb1⟩
      have Hb1a := Lib.hid hb1
      clear hb1 Hsm
      go_wp2_with fail
      refine (Hsm2.out _ Hb1a.out).mono ?_
      rintro e w1b ⟨rfl, hb1⟩
      have Hb1 := Lib.hid (Hb1a.out.trans (hb1.mono Hb1a.out.size))
      clear hb1 Hsm2 Hb1a
      go_wp2_with (go_at_call 8; refine (awake21_any _).mono ?_; rintro e w9 ⟨rfl, hb9⟩; have Hb9 := Lib.hid (Hb1.out.trans (hb9.mono Hb1.out.size)); clear hb9)
      go_ret
      exact ⟨rfl, Hb9.out⟩
  · have hs1 : smallB rows 15 = false := by simpa using hsb
    rw [hs1] at Hsm
    clear hsb hs1
    go_enter Try.func5, Try.ntmps5
    go_wp2_with fail
    refine Hsm.out.mono ?_
    rintro e w1 ⟨rfl, hb1⟩
    have Hb1 := Lib.hid hb1
    clear hb1 Hsm
    go_wp2_with (go_at_call 8; refine (awake21_any _).mono ?_; rintro e w9 ⟨rfl, hb9⟩; have Hb9 := Lib.hid (Hb1.out.trans (hb9.mono Hb1.out.size)); clear hb9)
    go_ret
    exact ⟨rfl, Hb9.out⟩
end Go.Proofs.Ytbnodgoccmhjkaa.Tithe
