/- The document's Keys: plain and walked. -/
import Derived.Test.YtbnodgoccmhjkaaFlatWith
namespace Go.Proofs.Ytbnodgoccmhjkaa.Tithe
open Go.RowKit Go.Sort Go.Shelf
set_option linter.unusedVariables false
set_option linter.unusedSimpArgs false
set_option maxRecDepth 100000
/-- the keys met so far -/
structure KeysM (all pre : List Bo) (ss : List (List UInt8)) : Prop where
  up : ss.Pairwise (fun a b => leB a b = true)
  nd : ss.Nodup
  sub : ∀ x ∈ ss, ∃ o ∈ pre, o.u.data.toList = x ∧ (findL o.u all).2 = true
  has : ∀ o ∈ pre, (findL o.u all).2 = true → o.u.data.toList ∈ ss
  len : ss.length ≤ pre.length
theorem KeysM.nil (all : List Bo) : KeysM all [] [] := ⟨List.Pairwise.nil, List.nodup_nil, (fun x hx => by cases hx), (fun o ho => by cases ho), Nat.le_refl _⟩
theorem KeysM.put {all pre : List Bo} {ss : List (List UInt8)} (h : KeysM all pre ss) (o : Bo) (ho : (findL o.u all).2 = true) : KeysM all (pre ++ [o]) (withL o.u ss) := by
  refine ⟨withL_up _ h.up, withL_nd _ h.nd, fun x hx => ?_, fun p hp hf => ?_, ?_⟩
  · rcases (withL_mem _ _ _).1 hx with e | e
    · exact ⟨o, List.mem_append_right _ List.mem_cons_self, e.symm, ho⟩
    · obtain ⟨q, hq, h2⟩ := h.sub x e
      exact ⟨q, List.mem_append_left _ hq, h2⟩
  · rw [withL_mem]
    rcases List.mem_append.1 hp with e | e
    · exact .inr (h.has p e hf)
    · rw [List.mem_singleton.1 e]; exact .inl rfl
  · have := withL_len o.u ss
    have := h.len
    rw [List.length_append, List.length_singleton]
    omega
theorem KeysM.pass {all pre : List Bo} {ss : List (List UInt8)} (h : KeysM all pre ss) (o : Bo) (ho : (findL o.u all).2 = false) : KeysM all (pre ++ [o]) ss := by
  refine ⟨h.up, h.nd, fun x hx => ?_, fun p hp hf => ?_, ?_⟩
  · obtain ⟨q, hq, h2⟩ := h.sub x hx
    exact ⟨q, List.mem_append_left _ hq, h2⟩
  · rcases List.mem_append.1 hp with e | e
    · exact h.has p e hf
    · rw [List.mem_singleton.1 e, ho] at hf; cases hf
  · have := h.len
    rw [List.length_append, List.length_singleton]
    omega
theorem foldF_named {l : List Bo} {F : FunO} {u : ByteArray} (h : (l.foldl stepF F) u ≠ none) : F u ≠ none ∨ ∃ o ∈ l, o.u = u := by
  induction l generalizing F with
  | nil => exact .inl h
  | cons x l ih =>
    rcases ih h with q | ⟨o, ho, e⟩
    · unfold stepF at q
      by_cases hx : u = x.u
      · exact .inr ⟨x, List.mem_cons_self, hx.symm⟩
      · rw [if_neg hx] at q; exact .inl q
    · exact .inr ⟨o, List.mem_cons_of_mem _ ho, e⟩
theorem KeysM.is {all : List Bo} {ss : List (List UInt8)} (h : KeysM all all ss) (hs : ∀ o ∈ all, o.u.size ≤ maxLen) : KeysIs (foldF all) ss := by
  refine ⟨h.nd, h.up, fun x hx => ?_, fun x hx => ?_⟩
  · have hfi := foldF_is (ba x) all
    constructor
    · intro hm
      obtain ⟨o, ho, e, hf⟩ := h.sub x hm
      have e2 : ba x = o.u := by rw [← e]; exact ba_list _
      rw [hfi, e2, if_pos hf]; rfl
    · intro hm
      have hne : foldF all (ba x) ≠ none := fun e => by rw [e] at hm; cases hm
      rcases foldF_named (l := all) (F := fun _ => none) hne with q | ⟨o, ho, e⟩
      · exact absurd rfl q
      · have hf : (findL (ba x) all).2 = true := by
          cases hb : (findL (ba x) all).2 with
          | true => rfl
          | false => rw [hfi, hb] at hm; cases hm
        have := h.has o ho (by rw [e]; exact hf)
        rw [e] at this
        have e3 : (ba x).data.toList = x := (ba_eq rfl).symm
        rwa [e3] at this
  · obtain ⟨o, ho, e, -⟩ := h.sub x hx
    rw [← e, ba_len]; exact hs o ho
def KeysOut (F : FunO) (w : World) (e : Ending) (w' : World) : Prop := ∃ v' ks, e = .returned v' ∧ KeysIs F ks ∧ ks.length ≤ 100000 ∧ OwnSt w' w.heap.size v' ks ∧ Below w.heap.size w w'
attribute [local go_sem] Oper.semAt_some
set_option maxHeartbeats 6400000 in
theorem keys_any (xb : Nat) (wv : Value) (most : Int) (rows : List Wr) (nn : Int) (w : World) (hB : w.heap[xb]? = some (.cells #[wv, .int .i64 most] 36 (0, 0))) (h : IsWs w wv rows) (hl : rows.length ≤ 1000000)
    (hfl : ((opsOf rows).take nn.toNat).flatten.length ≤ 100000) (hsm : ∀ o ∈ ((opsOf rows).take nn.toNat).flatten, o.u.size ≤ 100000) :
    Calls Try.prog 15 #[.pointer (some ⟨xb, 0, none⟩), .int .i64 nn] w (KeysOut (foldF ((opsOf rows).take nn.toNat).flatten) w) := by
  have Hfind := Lib.hid (fun (key : ByteArray) (A : World) (hA : Below w.heap.size w A) => find_any xb wv most rows nn key A (blk_bels hA hB) (h.below hA) hl)
  obtain ⟨all, hall⟩ : ∃ all, all = ((opsOf rows).take nn.toNat).flatten := ⟨_, rfl⟩
  rw [← hall] at Hfind hfl hsm ⊢
  obtain ⟨hsl, hrr⟩ := h
  obtain ⟨a, c, rfl, -, -, -⟩ := id hsl
  obtain ⟨-, hc, hm, hx⟩ := hsl.at
  obtain ⟨n, hn⟩ : ∃ n, n = rows.length := ⟨_, rfl⟩
  rw [← hn] at hc hx hB hl
  have Hx := Lib.hid hx
  have Hn := Lib.hid hn
  have Hrr := Lib.hid hrr
  have Hall := Lib.hid hall
  have Hsm := Lib.hid hsm
  have Hb0 := Lib.hid (fun (A : World) (hA : Below w.heap.size w A) => (cell_of_blk (blk_bels hA hB) 0).trans (show _ = some (.slice a n c) from rfl))
  clear hsl hx hn hrr hB hall hsm
  have hpre : ∀ i, i ≤ n → i ≤ nn.toNat → ∀ r, rows[i]? = some r → i < nn.toNat → ∀ j, ((opsOf rows).take i).flatten.length + (r.2.take j).length ≤ 100000 := by
    intro i hi hi2 r hr hi3 j
    have h1 : ((opsOf rows).take (i + 1)).flatten = ((opsOf rows).take i).flatten ++ r.2 := by
      have : (opsOf rows)[i]? = some r.2 := by unfold opsOf; rw [List.getElem?_map, hr]; rfl
      rw [List.take_add_one, this, List.flatten_append]; simp
    have h2 : ((opsOf rows).take (i + 1)).flatten.length ≤ all.length := by
      rw [Hall.out]
      obtain ⟨d, hd⟩ : ∃ d, nn.toNat = i + 1 + d := ⟨nn.toNat - (i + 1), by omega⟩
      rw [hd, List.take_add (i := i + 1), List.flatten_append, List.length_append]
      omega
    have h3 := List.length_take_le j r.2
    rw [h1, List.length_append] at h2
    have h4 : (r.2.take j).length ≤ r.2.length := List.length_take_le' _ _
    omega
  have Hpre := Lib.hid hpre
  clear hpre
  go_enter Try.func15, Try.ntmps15
  go_wp2_with fail
  go_loopw [5, 6] (fun ov iv wr => ∃ i : Nat, i ≤ n ∧ (i ≤ nn.toNat) ∧ iv = .int .i64 i ∧ Hid (∃ ss, OwnSt wr w.heap.size ov ss ∧ KeysM all ((opsOf rows).take i).flatten ss) ∧ Hid (Below w.heap.size w wr)) (fun _ iv _ => n - (intOf iv).toNat)
  case atStart => exact ⟨0, Nat.zero_le _, Nat.zero_le _, rfl, Lib.hid ⟨[], World.ownsRow_nil _ _ _ _, KeysM.nil all⟩, Lib.hid (Below.refl _ _)⟩
  case round =>
    obtain ⟨wo, rfl⟩ : ∃ wo : World, wo = wr := ⟨_, rfl⟩
    obtain ⟨i, hi, hi2, rfl, hK, Hb⟩ := hrel
    have b0 := Hb0.out wo Hb.out
    by_cases hgo : i < n ∧ (i : Int) < nn
    · obtain ⟨hin, hinn⟩ := hgo
      obtain ⟨be, off, rfl, hcell⟩ := Hx.out (by omega)
      obtain ⟨r, hrk⟩ : ∃ r, rows[i]? = some r := ⟨_, List.getElem?_eq_getElem (by rw [← Hn.out]; exact hin)⟩
      have Hd := Lib.hid (fun (A : World) (hA : Below w.heap.size w A) => show A.cell? ⟨be, off + i, none⟩ = some r.1 from by
        have := hcell i r hrk 0 _ rfl
        rw [Nat.mul_one, Nat.add_zero] at this
        exact (hA.cell (block_lt_of_cell this)).trans this)
      have hro := Hrr.out r (List.mem_of_getElem? hrk)
      have htk : ((opsOf rows).take (i + 1)).flatten = ((opsOf rows).take i).flatten ++ r.2 := by
        have : (opsOf rows)[i]? = some r.2 := by unfold opsOf; rw [List.getElem?_map, hrk]; rfl
        rw [List.take_add_one, this, List.flatten_append]; simp
      have Htk := Lib.hid htk
      have Hpr := Lib.hid (Hpre.out i hi hi2 r hrk (by omega))
      have Hin : Hid (∀ o ∈ r.2, o.u.size ≤ 100000) := Lib.hid (fun o ho => Hsm.out o (by
        rw [Hall.out]
        refine List.mem_flatten.2 ⟨r.2, ?_, ho⟩
        have h1 : ((opsOf rows).take nn.toNat)[i]? = some r.2 := by
          rw [List.getElem?_take_of_lt (by omega)]
          unfold opsOf; rw [List.getElem?_map, hrk]; rfl
        exact List.mem_of_getElem? h1))
      obtain ⟨rv, l⟩ := r
      dsimp only at Hd hro Htk Hin Hpr
      obtain ⟨ra, rc, rfl, -, -, -⟩ := id hro
      obtain ⟨-, hrc, hrm, hrx⟩ := hro.at
      obtain ⟨m, hm2⟩ : ∃ q, q = l.length := ⟨_, rfl⟩
      rw [← hm2] at Hd hrc hrx
      have Hrx := Lib.hid hrx
      have Hm2 := Lib.hid hm2
      have hin2 : (i : Int) < (n : Int) := by omega
      clear hcell hrk htk hro hrx hm2
      go_wp2_with fail
      clear b0
      go_loopw [5, 7] (fun ov jv wr => ∃ j : Nat, j ≤ m ∧ jv = .int .i64 j ∧ Hid (∃ ss, OwnSt wr w.heap.size ov ss ∧ KeysM all (((opsOf rows).take i).flatten ++ l.take j) ss) ∧ Hid (Below w.heap.size w wr)) (fun _ jv _ => m - (intOf jv).toNat)
      case atStart => exact ⟨0, Nat.zero_le _, rfl, Lib.hid (by rw [List.take_zero, List.append_nil]; exact hK.out), Hb⟩
      case round =>
        clear Hb hK
        obtain ⟨wq, rfl⟩ : ∃ wq : World, wq = wr := ⟨_, rfl⟩
        obtain ⟨j, hj, rfl, hKq, Hbq⟩ := hrel
        have b0 := Hb0.out wq Hbq.out
        have d0 := Hd.out wq Hbq.out
        by_cases hjm : j < m
        · obtain ⟨bo, of2, rfl, hce2⟩ := Hrx.out (by omega)
          obtain ⟨x, hxj⟩ : ∃ x, l[j]? = some x := ⟨_, List.getElem?_eq_getElem (by rw [← Hm2.out]; exact hjm)⟩
          obtain ⟨e0, e1, e2⟩ := IsOs.row (w := wq) (fun i x hi j y hj => (Hbq.out.cell (block_lt_of_cell (hce2 i x hi j y hj))).trans (hce2 i x hi j y hj)) hxj
          have htj : ((opsOf rows).take i).flatten ++ l.take (j + 1) = (((opsOf rows).take i).flatten ++ l.take j) ++ [x] := by
            rw [List.take_add_one, hxj, List.append_assoc]; rfl
          have Htj := Lib.hid htj
          have hxu := Hin.out x (List.mem_of_getElem? hxj)
          have hpl := Hpr.out j
          obtain ⟨ss, hss, hKM⟩ := hKq.out
          have hsl := hKM.len
          rw [List.length_append] at hsl
          have Hss := Lib.hid hss
          have HKM := Lib.hid hKM
          have Hssl := Lib.hid (show ss.length ≤ 100000 by omega)
          have Hsz : Hid (∀ y ∈ ss, y.length ≤ maxLen) := Lib.hid (fun y hy => by
            obtain ⟨o, ho, e, hf⟩ := hKM.sub y hy
            rcases List.mem_append.1 ho with q | q
            · have := Hsm.out o (by
                rw [Hall.out]
                obtain ⟨d, hd⟩ : ∃ d, nn.toNat = i + d := ⟨nn.toNat - i, by omega⟩
                rw [hd, List.take_add (i := i), List.flatten_append]
                exact List.mem_append_left _ q)
              rw [← e, ba_len]; unfold maxLen; omega
            · have := Hin.out o (List.mem_of_mem_take q)
              rw [← e, ba_len]; unfold maxLen; omega)
          have Hfi := Lib.hid (Hfind.out x.u wq Hbq.out)
          obtain ⟨kd, u, val⟩ := x
          dsimp only at e0 e1 e2 hxu Hfi
          have hjm2 : (j : Int) < (m : Int) := by omega
          have Hxu := Lib.hid hxu
          clear hce2 hxj htj hpl hss hKM hsl hKq hxu
          cases hfb : (findL u all).2 with
          | true =>
            rw [hfb] at Hfi
            have Hfb := Lib.hid hfb
            clear hfb
            go_wp2_with fail
            refine Hfi.out.mono ?_
            rintro e w1 ⟨rfl, hb1⟩
            have hbw1 := Hbq.out.trans (hb1.mono Hbq.out.size)
            have Hw := Lib.hid (with_any _ ss u w.heap.size w1 (Hss.out.below hb1) Hssl.out Hsz.out (by have := Hxu.out; unfold maxLen; omega) hbw1.size)
            have Hb1 := Lib.hid hbw1
            clear hb1 hbw1 b0 d0 e0 e1 e2
            go_wp2_with fail
            refine Hw.out.mono ?_
            rintro e w2 ⟨v2, rfl, hss2, hb2⟩
            have Hb2 := Lib.hid (Hb1.out.trans (hb2.mono Hb1.out.size))
            have HK2 : Hid (∃ ss, OwnSt w2 w.heap.size v2 ss ∧ KeysM all (((opsOf rows).take i).flatten ++ l.take (j + 1)) ss) := Lib.hid ⟨_, hss2, by rw [Htj.out]; exact HKM.out.put ⟨kd, u, val⟩ Hfb.out⟩
            clear hss2 hb2 Hw
            go_wp2_with fail
            go_roundw
            case rel => exact ⟨j + 1, by omega, by go_num, HK2, Hb2⟩
            case measure => simp [intOf]; omega
          | false =>
            rw [hfb] at Hfi
            have Hfb := Lib.hid hfb
            clear hfb
            go_wp2_with fail
            refine Hfi.out.mono ?_
            rintro e w1 ⟨rfl, hb1⟩
            have Hb1 := Lib.hid (Hbq.out.trans (hb1.mono Hbq.out.size))
            have HK2 := Lib.hid (show ∃ ss, OwnSt w1 w.heap.size _ ss ∧ KeysM all (((opsOf rows).take i).flatten ++ l.take (j + 1)) ss from ⟨_, Hss.out.below hb1, by rw [Htj.out]; exact HKM.out.pass ⟨kd, u, val⟩ Hfb.out⟩)
            clear hb1 b0 d0 e0 e1 e2
            go_wp2_with fail
            go_roundw
            case rel => exact ⟨j + 1, by omega, by go_num, HK2, Hb1⟩
            case measure => simp [intOf]; omega
        · obtain rfl : m = j := by omega
          have hK2 := hKq.out
          rw [List.take_of_length_le (l := l) (by rw [← Hm2.out]; exact Nat.le_refl _), ← Htk.out] at hK2
          have HK2 := Lib.hid hK2
          clear hK2 hKq
          go_wp2_with fail
          go_roundw
          case rel => exact ⟨i + 1, by omega, by omega, by go_num, HK2, Hbq⟩
          case measure => simp [intOf]; omega
    · have hE : ((opsOf rows).take i).flatten = all := by
        rw [Hall.out]
        by_cases q : i < n
        · have : nn.toNat = i := by
            have : ¬ (i : Int) < nn := fun z => hgo ⟨q, z⟩
            omega
          rw [this]
        · rw [List.take_of_length_le (by rw [opsOf_len, ← Hn.out]; omega), List.take_of_length_le (by rw [opsOf_len, ← Hn.out]; omega)]
      have hKf := hK.out
      rw [hE] at hKf
      have HKf := Lib.hid hKf
      clear hE hKf hK
      have hg2 : ¬ i < n ∨ (i < n ∧ ¬ (i : Int) < nn) := by
        by_cases q : i < n
        · exact .inr ⟨q, fun z => hgo ⟨q, z⟩⟩
        · exact .inl q
      clear hgo
      rcases hg2 with hg3 | ⟨hg3, hg4⟩
      all_goals
        go_wp2_with fail
        go_ret
        obtain ⟨ss, hss, hKM⟩ := HKf.out
        exact ⟨_, ss, rfl, hKM.is (fun o ho => by have := Hsm.out o ho; unfold maxLen; omega), by have := hKM.len; omega, hss, Hb.out⟩
end Go.Proofs.Ytbnodgoccmhjkaa.Tithe
