/- manifest.Replay of records that all lead on: walked (printed by mkmanrep.py). -/
import Derived.Test.YthjjelomlgmllaaManPar
import Derived.Test.YthjjelomlgmllaaManApply
import Derived.Test.YthjjelomlgmllaaManVerP
namespace Go.Proofs.Ythjjelomlgmllaa.Tithe
open Go.RowKit Go.Sort Go.Shelf
set_option linter.unusedVariables false
set_option linter.unusedSimpArgs false
set_option maxRecDepth 100000
/-- rows of bytes -/
def bbC (p : Value × List Nat) : List Value := [p.1]
theorem bbC_len (p : Value × List Nat) : (bbC p).length = 1 := rfl
def IsBB (w : World) (v : Value) (l : List (Value × List Nat)) : Prop := IsSl bbC 1 w v l ∧ ∀ p ∈ l, IsBs w p.1 p.2 ∧ (∀ x ∈ p.2, x < 256) ∧ p.2.length ≤ 100000
/-- a state, plain -/
structure Sp where
  L : Lv
  seq : Int
  logs : List Int
def Sp.nil : Sp := ⟨lvOf Vn.none.l, 0, []⟩
def rowsM (l : List (Int × Mt)) : List (Int × Mr) := l.map fun x => (x.1, (x.2, .slice none 0 0))
theorem psM_rowsM (l : List (Int × Mt)) : psM (rowsM l) = l := by
  unfold psM rowsM
  rw [List.map_map]
  exact List.map_id l
def okPm (p : Pd) : Bool := okPd p (rowsM p.ad)
theorem plsOk_psM {a b : List (Int × Mr)} (h : psM a = psM b) : ∀ n, plsOk a n = plsOk b n
  | 0 => rfl
  | n + 1 => by
    unfold plsOk
    rw [plsOk_psM h n]
    congr 1
    have e : ∀ l : List (Int × Mr), plOk (l.getD n (0, Mr.nil)) = plOk (((psM l).getD n (0, Mt.nil)).1, (((psM l).getD n (0, Mt.nil)).2, Mr.nil.2)) := fun l => by
      unfold psM
      rw [List.getD_eq_getElem?_getD, List.getD_eq_getElem?_getD, List.getElem?_map]
      cases l[n]? <;> rfl
    rw [e a, e b, h]
theorem psM_len {a b : List (Int × Mr)} (h : psM a = psM b) : a.length = b.length := by
  have := congrArg List.length h
  unfold psM at this
  rwa [List.length_map, List.length_map] at this
theorem recOk_psM {wh : Bool} {s : Int} {l d : List Int} {a b : List (Int × Mr)} (h : psM a = psM b) : recOk ⟨wh, s, l, a, d⟩ = recOk ⟨wh, s, l, b, d⟩ := by
  unfold recOk recHead
  dsimp only
  rw [psM_len h, plsOk_psM h]
theorem okPd_psM {p : Pd} {ad : List (Int × Mr)} (h : psM ad = p.ad) : okPd p ad = okPm p := by
  unfold okPm okPd
  rw [recOk_psM (show psM ad = psM (rowsM p.ad) by rw [psM_rowsM, h])]
def stepR (s : Sp) (b : List Nat) : Option Sp :=
  if okPm (parS b) = true then (applyP (if (parS b).wh = 1 then lvOf Vn.none.l else s.L) (parS b).dr (parS b).ad).map fun L' => ⟨L', ((parS b).sq : Int), (parS b).lg⟩ else none
def replP : Sp → List (List Nat) → Option Sp
  | s, [] => some s
  | s, b :: t => (stepR s b).bind fun s' => replP s' t
theorem replP_app (s : Sp) : ∀ (a b : List (List Nat)), replP s (a ++ b) = (replP s a).bind fun s' => replP s' b
  | [], b => rfl
  | x :: a, b => by
    show (stepR s x).bind (fun s' => replP s' (a ++ b)) = ((stepR s x).bind fun s' => replP s' a).bind fun s' => replP s' b
    cases stepR s x with
    | none => rfl
    | some s' => exact replP_app s' a b
theorem replP_at {s st : Sp} {l : List (List Nat)} {k : Nat} {b : List Nat} (h : replP s l = some st) (hb : l[k]? = some b) {sk : Sp} (hk : replP s (l.take k) = some sk) : ∃ s2, stepR sk b = some s2 ∧ replP s (l.take (k + 1)) = some s2 := by
  obtain ⟨h1, h2⟩ := List.getElem?_eq_some_iff.1 hb
  have e : l = l.take k ++ b :: l.drop (k + 1) := by rw [← h2, ← List.drop_eq_getElem_cons h1, List.take_append_drop]
  rw [e, replP_app, hk] at h
  simp only [Option.bind_some, replP] at h
  have h3 := h
  cases q : stepR sk b with
  | none => rw [q] at h3; cases h3
  | some s2 =>
    refine ⟨s2, rfl, ?_⟩
    rw [List.take_succ_eq_append_getElem h1, replP_app, hk, h2]
    simp only [Option.bind_some, replP, q]
attribute [local go_sem] Oper.semAt_some
set_option maxHeartbeats 12800000 in
theorem mreplay_any (v : Value) (l : List (Value × List Nat)) (st : Sp) (w : World) (h : IsBB w v l) (hr : replP Sp.nil (l.map (·.2)) = some st) :
    Calls Try.prog 26 #[v] w fun e w' => ∃ (U : Vn) (vl : Value), e = .returned (.tuple #[.agg #[U.v 0, U.v 1, U.v 2, U.v 3, .int .i64 st.seq, vl], .int .i64 0]) ∧ OwnVn w' w.heap.size U ∧ (∀ n, n < 4 → lvOf U.l n = st.L n) ∧ OwnZ w' w.heap.size vl st.logs ∧ Below w.heap.size w w' := by
  obtain ⟨a, c, rfl, -, -, -⟩ := id h.1
  obtain ⟨-, hcn, hcm, hx⟩ := h.1.at
  obtain ⟨n, hn⟩ : ∃ q, q = l.length := ⟨_, rfl⟩
  rw [← hn] at hx hcn ⊢
  have Hn := Lib.hid hn
  have Hx := Lib.hid hx
  have Hbb := Lib.hid h.2
  have Hr := Lib.hid hr
  clear hn hx h hr
  go_enter Try.func26, Try.ntmps26
  go_upto_region 2 with fail
  have hA1 : Below w.heap.size w (w.alloc (.cells #[.slice none 0 0, .slice none 0 0, .slice none 0 0, .slice none 0 0, .int .i64 0, .slice none 0 0] 63)) := (Below.refl _ _).alloc (Nat.le_refl _) _
  have hK1 := blk_of_alloc w (.cells #[.slice none 0 0, .slice none 0 0, .slice none 0 0, .slice none 0 0, .int .i64 0, .slice none 0 0] 63)
  obtain ⟨Wa, hWa⟩ : ∃ q : World, q = w.alloc (.cells #[.slice none 0 0, .slice none 0 0, .slice none 0 0, .slice none 0 0, .int .i64 0, .slice none 0 0] 63) := ⟨_, rfl⟩
  have hs1 : Wa.heap.size = w.heap.size + 1 := by rw [hWa, World.size_alloc]
  rw [← hWa] at hA1 hK1 ⊢
  have hA2 : Below Wa.heap.size Wa (Wa.alloc (.cells #[.slice none 0 0, .slice none 0 0, .slice none 0 0, .slice none 0 0, .int .i64 0, .slice none 0 0] 63)) := (Below.refl _ _).alloc (Nat.le_refl _) _
  have hK2 := blk_of_alloc Wa (.cells #[.slice none 0 0, .slice none 0 0, .slice none 0 0, .slice none 0 0, .int .i64 0, .slice none 0 0] 63)
  rw [hs1] at hK2
  have HO := Lib.hid (blk_bels hA2 hK1)
  have HS := Lib.hid hK2
  have HB := Lib.hid (hA1.trans (hA2.mono hA1.size))
  obtain ⟨sb, hsb⟩ : ∃ q, q = w.heap.size + 1 := ⟨_, rfl⟩
  obtain ⟨ob, hob⟩ : ∃ q, q = w.heap.size := ⟨_, rfl⟩
  rw [← hsb] at HS ⊢
  rw [← hob] at HO ⊢
  have Hob : Hid (ob = w.heap.size ∧ sb = w.heap.size + 1) := Lib.hid ⟨hob, hsb⟩
  clear hA1 hK1 hWa hs1 hA2 hK2 hsb hob
  generalize Wa.alloc (.cells #[.slice none 0 0, .slice none 0 0, .slice none 0 0, .slice none 0 0, .int .i64 0, .slice none 0 0] 63) = W at *
  go_wp2_with fail
  go_loopw [11] (fun iv wr => ∃ (k : Nat) (sk : Sp) (U : Vn) (lv : Value), k ≤ n ∧ iv = .int .i64 k ∧ replP Sp.nil ((l.map (·.2)).take k) = some sk ∧ wr.heap[sb]? = some (.cells #[U.v 0, U.v 1, U.v 2, U.v 3, .int .i64 sk.seq, lv] 63 (0, 0)) ∧ OwnVn wr w.heap.size U ∧ (∀ n, n < 4 → lvOf U.l n = sk.L n) ∧ verOk U.l = true ∧ OwnZ wr w.heap.size lv sk.logs ∧ Below w.heap.size w wr ∧ wr.heap[ob]? = some (.cells #[.slice none 0 0, .slice none 0 0, .slice none 0 0, .slice none 0 0, .int .i64 0, .slice none 0 0] 63 (0, 0))) (fun i _ => n - (intOf i).toNat)
  case atStart => exact ⟨0, Sp.nil, Vn.none, .slice none 0 0, Nat.zero_le _, rfl, rfl, HS.out, ownVn_none _ _, fun _ _ => rfl, rfl, World.ownsRow_nil _ _ _ _, HB.out, HO.out⟩
  case round =>
    clear HS HO HB
    obtain ⟨wo, rfl⟩ : ∃ wo : World, wo = wr := ⟨_, rfl⟩
    obtain ⟨k, sk, U, lv, hk, rfl, hrk, hsb, hU, hUL, hver, hlv, hb, hob⟩ := hrel
    obtain ⟨ua0, un0, uc0, ua1, un1, uc1, ua2, un2, uc2, ua3, un3, uc3, e0, e1, e2, e3⟩ := vn_slices hU
    obtain ⟨nl, hnl⟩ : ∃ q, q = sk.logs.length := ⟨_, rfl⟩
    have hlv2 := hlv
    rw [OwnZ, ← hnl] at hlv2
    obtain ⟨la, lc, rfl⟩ := own_slice hlv2
    have hsb2 := hsb
    rw [e0, e1, e2, e3] at hsb2
    have HE := Lib.hid (And.intro e0 (And.intro e1 (And.intro e2 e3)))
    have Hrk := Lib.hid hrk
    have Hsb := Lib.hid hsb2
    have HU := Lib.hid hU
    have HUL := Lib.hid hUL
    have Hver := Lib.hid hver
    have Hlv := Lib.hid hlv
    have Hb := Lib.hid hb
    have Hobz := Lib.hid hob
    obtain ⟨sq, hsq⟩ : ∃ q, q = sk.seq := ⟨_, rfl⟩
    have Hsq := Lib.hid hsq
    rw [← hsq] at Hsb
    clear e0 e1 e2 e3 hnl hlv2 hsb hsb2 hrk hU hUL hver hlv hb hob hsq
    by_cases hkn : k < n
    · obtain ⟨be, off, rfl, hcell⟩ := Hx.out (by omega)
      obtain ⟨⟨bv, bs⟩, hbk⟩ : ∃ x, l[k]? = some x := ⟨_, List.getElem?_eq_getElem (by rw [← Hn.out]; exact hkn)⟩
      have c0 := hcell k _ hbk 0 _ rfl
      rw [Nat.mul_one, Nat.add_zero] at c0
      have d0 := (Hb.out.cell (block_lt_of_cell c0)).trans c0
      obtain ⟨hbs, hb256, hblen⟩ := Hbb.out _ (List.mem_of_getElem? hbk)
      dsimp only at hbs hb256 hblen d0
      have hbk2 : (l.map (·.2))[k]? = some bs := by rw [List.getElem?_map, hbk]; rfl
      obtain ⟨s2, hst, hr2⟩ := replP_at Hr.out hbk2 Hrk.out
      have Hst := Lib.hid hst
      have Hr2 := Lib.hid hr2
      have hbsw := hbs.below (Hb.out)
      obtain ⟨ba, bc, rfl, -, -, -⟩ := id hbsw
      obtain ⟨bn, hbn⟩ : ∃ q, q = bs.length := ⟨_, rfl⟩
      rw [← hbn] at d0 hbsw
      have Hpa := Lib.hid (mparse_any _ bs wo hbsw hb256 hblen)
      clear hcell hbk c0 hbs hb256 hblen hbk2 hst hr2 hbsw hbn
      go_wp2_with fail
      refine Hpa.out.mono ?_
      rintro e w2 ⟨hb2, vl, va, vd, ad, had, hvl, hvd, hva, hcase⟩
      obtain ⟨P, hP⟩ : ∃ q, q = parS bs := ⟨_, rfl⟩
      have HP := Lib.hid hP
      rw [← hP] at had hvl hvd hcase
      have hst2 := Hst.out
      unfold stepR at hst2
      rw [← hP] at hst2
      have hokm : okPm P = true := by
        cases q : okPm P with
        | true => rfl
        | false => rw [q] at hst2; cases hst2
      rw [if_pos hokm] at hst2
      have hokd := (okPd_psM had).trans hokm
      rcases hcase with ⟨-, rfl⟩ | ⟨hno, -⟩
      rotate_left
      · rw [hokd] at hno; cases hno
      obtain ⟨wh, hwh⟩ : ∃ q, q = decide (P.wh = 1) := ⟨_, rfl⟩
      have hrec : recOk ⟨wh, (P.sq : Int), P.lg, ad, P.dr⟩ = true := by
        unfold okPd at hokd
        rw [Bool.and_eq_true] at hokd
        rw [hwh]; exact hokd.2
      have hri := recOk_is hrec
      obtain ⟨L', hL', hs2⟩ : ∃ L', applyP (if P.wh = 1 then lvOf Vn.none.l else sk.L) P.dr P.ad = some L' ∧ s2 = ⟨L', (P.sq : Int), P.lg⟩ := by
        cases q : applyP (if P.wh = 1 then lvOf Vn.none.l else sk.L) P.dr P.ad with
        | none => rw [q] at hst2; cases hst2
        | some L' => rw [q] at hst2; injection hst2 with hst2; exact ⟨L', rfl, hst2.symm⟩
      have hLE : LvE (lvOf (if wh then Vn.none else U).l) (if P.wh = 1 then lvOf Vn.none.l else sk.L) := by
        rw [hwh]
        by_cases q : P.wh = 1
        · rw [if_pos (decide_eq_true q), if_pos q]; exact LvE.refl _
        · rw [if_neg (by simpa using q), if_neg q]; exact HUL.out
      obtain ⟨L2, hL2, hL2E⟩ := applyP_some hLE hL'
      rw [← had] at hL2
      rw [← hwh]
      have Hs2 := Lib.hid hs2
      have HL2 := Lib.hid hL2
      have HL2E := Lib.hid hL2E
      have Hrec := Lib.hid hrec
      obtain ⟨ln, hln⟩ : ∃ q, q = P.lg.length := ⟨_, rfl⟩
      obtain ⟨dn, hdn⟩ : ∃ q, q = P.dr.length := ⟨_, rfl⟩
      obtain ⟨an, han⟩ : ∃ q, q = ad.length := ⟨_, rfl⟩
      have hv1 := hvl
      rw [OwnZ, ← hln] at hv1
      obtain ⟨vla, vlc, rfl⟩ := own_slice hv1
      have hv2 := hvd
      rw [OwnZ, ← hdn] at hv2
      obtain ⟨vda, vdc, rfl⟩ := own_slice hv2
      have hv3 := hva.1
      rw [← han] at hv3
      obtain ⟨vaa, vac, rfl⟩ := own_slice hv3
      obtain ⟨ps, hps⟩ : ∃ q : Int, q = (P.sq : Int) := ⟨_, rfl⟩
      rw [← hps] at hrec Hs2 Hrec hri ⊢
      obtain ⟨plg, hplg⟩ : ∃ q, q = P.lg := ⟨_, rfl⟩
      obtain ⟨pdr, hpdr⟩ : ∃ q, q = P.dr := ⟨_, rfl⟩
      rw [← hplg] at hrec Hs2 Hrec hri hvl hln
      rw [← hpdr] at hrec Hrec hri hvd HL2 hdn
      have hvs := ver_small Hver.out
      have hA : Below w2.heap.size w2 (w2.alloc (.cells #[.bool wh, .int .i64 ps, .slice vla ln vlc, .slice vaa an vac, .slice vda dn vdc] 27)) := (Below.refl _ _).alloc (Nat.le_refl _) _
      have HR3 := Lib.hid (blk_of_alloc w2 (.cells #[.bool wh, .int .i64 ps, .slice vla ln vlc, .slice vaa an vac, .slice vda dn vdc] 27))
      have HS3 := Lib.hid (blk_bels hA (blk_bels hb2 Hsb.out))
      have HO3 := Lib.hid (blk_bels hA (blk_bels hb2 Hobz.out))
      have hU3 : OwnVn (w2.alloc (.cells #[.bool wh, .int .i64 ps, .slice vla ln vlc, .slice vaa an vac, .slice vda dn vdc] 27)) w.heap.size U := (HU.out.below hb2).below hA
      have hb3 := Hb.out.trans ((hb2.trans (hA.mono hb2.size)).mono Hb.out.size)
      have HB3 := Lib.hid hb3
      have hap := sapply_any U sq (.slice la nl lc) ⟨_, _, _, rfl⟩ wh ps (.slice vla ln vlc) (.slice vaa an vac) (.slice vda dn vdc) plg ad pdr _ hU3.isVn Hver.out (by omega) (fun p hp => by have := hvs.2 p hp; omega)
        ((isSl_own zzC_len hvl).below hA) ((isSl_own zzC_len hvd).below hA) ⟨(isSl_own plC_len hva.1).below hA, fun p hp => ((hva.2 p hp).is).below hA⟩ (by have := hri.an; dsimp only at this; omega) (fun p hp => by have := (hri.ap p hp).rn; dsimp only at this; omega)
      have Hap := Lib.hid hap
      have hwv : wo.heap.size ≤ w2.heap.size := hb2.size
      have HU3 := Lib.hid hU3
      obtain ⟨rb, hrb⟩ : ∃ q, q = w2.heap.size := ⟨_, rfl⟩
      have Hrb := Lib.hid hrb
      rw [← hrb] at HR3
      clear hb2 had hvl hvd hva hP hst2 hokm hokd hwh hrec hri hL' hs2 hLE hL2 hL2E hln hdn han hv1 hv2 hv3 hps hplg hpdr hvs hA hU3 hb3 hap hrb Hpa d0
      go_upto_region 6 with fail
      rw [← Hrb.out]
      generalize w2.alloc (.cells #[.bool wh, .int .i64 ps, .slice vla ln vlc, .slice vaa an vac, .slice vda dn vdc] 27) = W3 at *
      clear Hrb hwv
      have cs0 : W3.cell? ⟨sb, 0, none⟩ = some (.slice ua0 un0 uc0) := by rw [cell_blkR HS3.out]; rfl
      have cs1 : W3.cell? ⟨sb, 1, none⟩ = some (.slice ua1 un1 uc1) := by rw [cell_blkR HS3.out]; rfl
      have cs2 : W3.cell? ⟨sb, 2, none⟩ = some (.slice ua2 un2 uc2) := by rw [cell_blkR HS3.out]; rfl
      have cs3 : W3.cell? ⟨sb, 3, none⟩ = some (.slice ua3 un3 uc3) := by rw [cell_blkR HS3.out]; rfl
      have cs4 : W3.cell? ⟨sb, 4, none⟩ = some (.int .i64 sq) := by rw [cell_blkR HS3.out]; rfl
      have cs5 : W3.cell? ⟨sb, 5, none⟩ = some (.slice la nl lc) := by rw [cell_blkR HS3.out]; rfl
      have r0 : W3.cell? ⟨rb, 0, none⟩ = some (.bool wh) := by rw [cell_blkR HR3.out]; rfl
      have r1 : W3.cell? ⟨rb, 1, none⟩ = some (.int .i64 ps) := by rw [cell_blkR HR3.out]; rfl
      have r2 : W3.cell? ⟨rb, 2, none⟩ = some (.slice vla ln vlc) := by rw [cell_blkR HR3.out]; rfl
      have r3 : W3.cell? ⟨rb, 3, none⟩ = some (.slice vaa an vac) := by rw [cell_blkR HR3.out]; rfl
      have r4 : W3.cell? ⟨rb, 4, none⟩ = some (.slice vda dn vdc) := by rw [cell_blkR HR3.out]; rfl
      go_wp2_with fail
      refine (show Calls _ _ _ _ _ from by have := Hap.out; rw [HE.out.1, HE.out.2.1, HE.out.2.2.1, HE.out.2.2.2] at this; exact this).mono ?_
      intro e w4 hst4
      unfold StOut at hst4
      rw [if_pos Hrec.out] at hst4
      dsimp only at hst4
      rw [HL2.out] at hst4
      obtain ⟨U2, vl2, rfl, hU2, hL4, hz4, hb4⟩ := hst4
      obtain ⟨fa0, fn0, fc0, fa1, fn1, fc1, fa2, fn2, fc2, fa3, fn3, fc3, e0, e1, e2, e3⟩ := vn_slices hU2
      have HE2 := Lib.hid (And.intro e0 (And.intro e1 (And.intro e2 e3)))
      obtain ⟨zn, hzn⟩ : ∃ q, q = plg.length := ⟨_, rfl⟩
      have hz5 := hz4
      rw [OwnZ, ← hzn] at hz5
      obtain ⟨za, zc, rfl⟩ := own_slice hz5
      have hver2 : verOk U2.l = true := by rw [verOk_lv, verOkP_congr hL4]; exact apply_ok HL2.out
      have hsbx := blk_bels hb4 HS3.out
      have hobx := blk_bels hb4 HO3.out
      have hne : ob ≠ sb := by have := Hob.out; omega
      have hbw := HB3.out.trans (hb4.mono HB3.out.size)
      have Hset := Lib.hid (set6 hsbx (.slice fa0 fn0 fc0) (.slice fa1 fn1 fc1) (.slice fa2 fn2 fc2) (.slice fa3 fn3 fc3) (.int .i64 ps) (.slice za zn zc))
      have Hob4 := Lib.hid ((set6_oth w4 sb (.slice fa0 fn0 fc0) (.slice fa1 fn1 fc1) (.slice fa2 fn2 fc2) (.slice fa3 fn3 fc3) (.int .i64 ps) (.slice za zn zc) ob hne).trans hobx)
      have Hbf := Lib.hid (set6_below hbw (show w.heap.size ≤ sb by have := Hob.out; omega) (.slice fa0 fn0 fc0) (.slice fa1 fn1 fc1) (.slice fa2 fn2 fc2) (.slice fa3 fn3 fc3) (.int .i64 ps) (.slice za zn zc))
      have HUf := Lib.hid (OwnVn.other (hU2.mono HB3.out.size) hsbx (by decide) (by decide) (fun k hk => set6_oth w4 sb (.slice fa0 fn0 fc0) (.slice fa1 fn1 fc1) (.slice fa2 fn2 fc2) (.slice fa3 fn3 fc3) (.int .i64 ps) (.slice za zn zc) k hk))
      have HZf := Lib.hid (own_other (own_mono hz4 HB3.out.size) hsbx (by decide) (fun k hk => set6_oth w4 sb (.slice fa0 fn0 fc0) (.slice fa1 fn1 fc1) (.slice fa2 fn2 fc2) (.slice fa3 fn3 fc3) (.int .i64 ps) (.slice za zn zc) k hk))
      have HL4 : Hid (∀ n, n < 4 → lvOf U2.l n = s2.L n) := Lib.hid (fun n hn => by rw [hL4 n hn, HL2E.out n hn, Hs2.out])
      have Hver2 := Lib.hid hver2
      have t0 := frozen_blkR hsbx 0
      have t1 := frozen_blkR hsbx 1
      have t2 := frozen_blkR hsbx 2
      have t3 := frozen_blkR hsbx 3
      have t4 := frozen_blkR hsbx 4
      have t5 := frozen_blkR hsbx 5
      have y0 : w4.cell? ⟨sb, 0, none⟩ = some (.slice ua0 un0 uc0) := by rw [cell_blkR hsbx]; rfl
      have y1 : w4.cell? ⟨sb, 1, none⟩ = some (.slice ua1 un1 uc1) := by rw [cell_blkR hsbx]; rfl
      have y2 : w4.cell? ⟨sb, 2, none⟩ = some (.slice ua2 un2 uc2) := by rw [cell_blkR hsbx]; rfl
      have y3 : w4.cell? ⟨sb, 3, none⟩ = some (.slice ua3 un3 uc3) := by rw [cell_blkR hsbx]; rfl
      have y4 : w4.cell? ⟨sb, 4, none⟩ = some (.int .i64 sq) := by rw [cell_blkR hsbx]; rfl
      have y5 : w4.cell? ⟨sb, 5, none⟩ = some (.slice la nl lc) := by rw [cell_blkR hsbx]; rfl
      clear hU2 hL4 hz4 hz5 hb4 hzn hver2 hsbx hobx hne hbw Hap HS3 HO3 HR3 HB3 HU3
      rw [e0, e1, e2, e3]
      clear e0 e1 e2 e3
      go_wp2_with fail
      go_roundw
      case rel => exact ⟨k + 1, s2, U2, .slice za zn zc, by omega, by go_num, Hr2.out, by rw [HE2.out.1, HE2.out.2.1, HE2.out.2.2.1, HE2.out.2.2.2, show s2.seq = ps by rw [Hs2.out]]; exact Hset.out, HUf.out, HL4.out, Hver2.out, by rw [show s2.logs = plg by rw [Hs2.out]]; exact HZf.out, Hbf.out, Hob4.out⟩
      case measure => simp [intOf]; omega
    · obtain rfl : k = n := by omega
      have hfin : sk = st := by
        have h1 := Hrk.out
        rw [List.take_of_length_le (by rw [List.length_map, ← Hn.out]; exact Nat.le_refl _), Hr.out] at h1
        injection h1 with h1; exact h1.symm
      have hobx := Hobz.out
      have hne : ∀ k, k ≠ ob → True := fun _ _ => trivial
      have Hset := Lib.hid (set6 hobx (.slice ua0 un0 uc0) (.slice ua1 un1 uc1) (.slice ua2 un2 uc2) (.slice ua3 un3 uc3) (.int .i64 sq) (.slice la nl lc))
      have Hbf := Lib.hid (set6_below Hb.out (show w.heap.size ≤ ob by have := Hob.out; omega) (.slice ua0 un0 uc0) (.slice ua1 un1 uc1) (.slice ua2 un2 uc2) (.slice ua3 un3 uc3) (.int .i64 sq) (.slice la nl lc))
      have HUf := Lib.hid (OwnVn.other HU.out hobx (by decide) (by decide) (fun k hk => set6_oth wo ob (.slice ua0 un0 uc0) (.slice ua1 un1 uc1) (.slice ua2 un2 uc2) (.slice ua3 un3 uc3) (.int .i64 sq) (.slice la nl lc) k hk))
      have HZf := Lib.hid (own_other Hlv.out hobx (by decide) (fun k hk => set6_oth wo ob (.slice ua0 un0 uc0) (.slice ua1 un1 uc1) (.slice ua2 un2 uc2) (.slice ua3 un3 uc3) (.int .i64 sq) (.slice la nl lc) k hk))
      have Hfin := Lib.hid hfin
      have t0 := frozen_blkR hobx 0
      have t1 := frozen_blkR hobx 1
      have t2 := frozen_blkR hobx 2
      have t3 := frozen_blkR hobx 3
      have t4 := frozen_blkR hobx 4
      have t5 := frozen_blkR hobx 5
      have y0 : wo.cell? ⟨ob, 0, none⟩ = some (.slice none 0 0) := by rw [cell_blkR hobx]; rfl
      have y1 : wo.cell? ⟨ob, 1, none⟩ = some (.slice none 0 0) := by rw [cell_blkR hobx]; rfl
      have y2 : wo.cell? ⟨ob, 2, none⟩ = some (.slice none 0 0) := by rw [cell_blkR hobx]; rfl
      have y3 : wo.cell? ⟨ob, 3, none⟩ = some (.slice none 0 0) := by rw [cell_blkR hobx]; rfl
      have y4 : wo.cell? ⟨ob, 4, none⟩ = some (.int .i64 0) := by rw [cell_blkR hobx]; rfl
      have y5 : wo.cell? ⟨ob, 5, none⟩ = some (.slice none 0 0) := by rw [cell_blkR hobx]; rfl
      have cs0 : wo.cell? ⟨sb, 0, none⟩ = some (.slice ua0 un0 uc0) := by rw [cell_blkR Hsb.out]; rfl
      have cs1 : wo.cell? ⟨sb, 1, none⟩ = some (.slice ua1 un1 uc1) := by rw [cell_blkR Hsb.out]; rfl
      have cs2 : wo.cell? ⟨sb, 2, none⟩ = some (.slice ua2 un2 uc2) := by rw [cell_blkR Hsb.out]; rfl
      have cs3 : wo.cell? ⟨sb, 3, none⟩ = some (.slice ua3 un3 uc3) := by rw [cell_blkR Hsb.out]; rfl
      have cs4 : wo.cell? ⟨sb, 4, none⟩ = some (.int .i64 sq) := by rw [cell_blkR Hsb.out]; rfl
      have cs5 : wo.cell? ⟨sb, 5, none⟩ = some (.slice la nl lc) := by rw [cell_blkR Hsb.out]; rfl
      clear hobx hne hfin
      go_wp2_with fail
      refine bodyPost_ret (v := .tuple #[.agg #[.slice ua0 un0 uc0, .slice ua1 un1 uc1, .slice ua2 un2 uc2, .slice ua3 un3 uc3, .int .i64 sq, .slice la nl lc], .int .i64 0]) ?_ rfl ⟨U, .slice la nl lc, by rw [HE.out.1, HE.out.2.1, HE.out.2.2.1, HE.out.2.2.2, Hsq.out, Hfin.out], HUf.out, by rw [← Hfin.out]; exact HUL.out, by rw [← Hfin.out]; exact HZf.out, Hbf.out⟩
      have hres := Hset.out
      have z0 := cell_blkR hres 0
      have z1 := cell_blkR hres 1
      have z2 := cell_blkR hres 2
      have z3 := cell_blkR hres 3
      have z4 := cell_blkR hres 4
      have z5 := cell_blkR hres 5
      simp only [List.getElem?_toArray, List.getElem?_cons_zero, List.getElem?_cons_succ] at z0 z1 z2 z3 z4 z5
      generalize ((((((wo.setCell ⟨ob, 0, none⟩ (.slice ua0 un0 uc0)).setCell ⟨ob, 1, none⟩ (.slice ua1 un1 uc1)).setCell ⟨ob, 2, none⟩ (.slice ua2 un2 uc2)).setCell ⟨ob, 3, none⟩ (.slice ua3 un3 uc3)).setCell ⟨ob, 4, none⟩ (.int .i64 sq)).setCell ⟨ob, 5, none⟩ (.slice la nl lc)) = F at *
      simp [results, Try.results26, go_sem, z0, z1, z2, z3, z4, z5]
end Go.Proofs.Ythjjelomlgmllaa.Tithe
