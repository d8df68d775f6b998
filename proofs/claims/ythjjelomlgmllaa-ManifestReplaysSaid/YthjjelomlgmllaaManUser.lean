/- ikey's user: the user's bytes out of a key's: walked. -/
import Derived.Test.YthjjelomlgmllaaManWrite
namespace Go.Proofs.Ythjjelomlgmllaa.Tithe
open Go.RowKit Go.Sort Go.Shelf
set_option linter.unusedVariables false
set_option linter.unusedSimpArgs false
set_option maxRecDepth 100000
/-- the user's bytes, and how many bytes they take -/
def usr : List Nat → Option (List Nat × Nat)
  | [] => none
  | x :: t => if x ≠ 0 then (usr t).map (fun p => (x :: p.1, p.2 + 1)) else
    match t with
    | [] => none
    | y :: u => if y = 1 then some ([], 2) else if y = 255 then (usr u).map (fun p => (0 :: p.1, p.2 + 2)) else none
/-- go on with what was found -/
def usrG (out : List Nat) (k : Nat) (p : List Nat × Nat) : List Nat × Nat := (out ++ p.1, k + p.2)
theorem usr_nz {x : Nat} {t out : List Nat} {k : Nat} (h : x ≠ 0) : (usr (x :: t)).map (usrG out k) = (usr t).map (usrG (out ++ [x]) (k + 1)) := by
  rw [usr.eq_def (x :: t)]
  dsimp only
  rw [if_pos h, Option.map_map]
  congr 1
  funext p
  simp [usrG]; omega
theorem usr_z255 {u out : List Nat} {k : Nat} : (usr (0 :: 255 :: u)).map (usrG out k) = (usr u).map (usrG (out ++ [0]) (k + 2)) := by
  rw [usr.eq_def (0 :: 255 :: u)]
  dsimp only
  rw [if_neg (by simp)]
  simp only [show ¬ (255 = 1) by decide, if_false, if_true, Option.map_map]
  congr 1
  funext p
  simp [usrG]; omega
theorem usr_z1 {u out : List Nat} {k : Nat} : (usr (0 :: 1 :: u)).map (usrG out k) = some (out, k + 2) := by
  rw [usr.eq_def (0 :: 1 :: u)]
  dsimp only
  rw [if_neg (by simp)]
  simp [usrG]
theorem usr_zx {y : Nat} {u out : List Nat} {k : Nat} (h1 : y ≠ 1) (h2 : y ≠ 255) : (usr (0 :: y :: u)).map (usrG out k) = none := by
  rw [usr.eq_def (0 :: y :: u)]
  dsimp only
  rw [if_neg (by simp)]
  simp [h1, h2]
theorem usr_z {out : List Nat} {k : Nat} : (usr [0]).map (usrG out k) = none := by
  rw [usr.eq_def [0]]; rfl
theorem usr_nil {out : List Nat} {k : Nat} : (usr []).map (usrG out k) = none := by rw [usr]; rfl
/-- what user gives -/
def UsrOut (w : World) (r : Option (List Nat × Nat)) (e : Ending) (w' : World) : Prop := match r with
  | some p => ∃ v, e = .returned (.tuple #[v, .int .i64 (p.2 : Nat), .bool true]) ∧ OwnBs w' w.heap.size v p.1 ∧ Below w.heap.size w w'
  | none => e = .returned (.tuple #[.slice none 0 0, .int .i64 0, .bool false]) ∧ Below w.heap.size w w'
attribute [local go_sem] Oper.semAt_some
set_option maxHeartbeats 6400000 in
theorem user_any (v : Value) (bs : List Nat) (w : World) (h : IsBs w v bs) (hb : ∀ x ∈ bs, x < 256) (hl : bs.length ≤ 100000) :
    Calls Try.prog 88 #[v] w fun e w' => UsrOut w (usr bs) e w' := by
  obtain ⟨a, c, rfl, -, -, -⟩ := id h
  obtain ⟨-, hc, hm, hx⟩ := h.at
  obtain ⟨n, hn⟩ : ∃ q, q = bs.length := ⟨_, rfl⟩
  rw [← hn] at hc hx hl ⊢
  have Hx := Lib.hid hx
  have Hn := Lib.hid hn
  have Hby := Lib.hid hb
  clear hx hn hb h
  go_enter Try.func88, Try.ntmps88
  go_wp2_with fail
  go_loopw [5, 6] (fun ov iv wr => ∃ (k : Nat) (out : List Nat), k ≤ n ∧ iv = .int .i64 k ∧ out.length ≤ k ∧ usr bs = (usr (bs.drop k)).map (usrG out k) ∧ OwnBs wr w.heap.size ov out ∧ Below w.heap.size w wr) (fun _ iv _ => n - (intOf iv).toNat)
  case atStart => exact ⟨0, [], Nat.zero_le _, rfl, Nat.le_refl _, by
    rw [List.drop_zero]
    have : (usrG [] 0) = id := by funext p; simp [usrG]
    rw [this, Option.map_id]; rfl, World.ownsRow_nil _ _ _ _, Below.refl _ _⟩
  case round =>
    obtain ⟨wo, rfl⟩ : ∃ wo : World, wo = wr := ⟨_, rfl⟩
    obtain ⟨k, out, hk, rfl, hok, husr, hown, hb⟩ := hrel
    have Husr := Lib.hid husr
    have Hown := Lib.hid hown
    have Hb := Lib.hid hb
    obtain ⟨oa, oc, rfl⟩ := own_slice hown
    obtain ⟨on, hon⟩ : ∃ q, q = out.length := ⟨_, rfl⟩
    have Hon := Lib.hid hon
    rw [← hon] at hok ⊢
    clear husr hown hb hon
    by_cases hkn : k < n
    · obtain ⟨be, off, rfl, hcell⟩ := Hx.out (by omega)
      have Hce : Hid (∀ (i x : Nat), bs[i]? = some x → wo.cell? ⟨be, off + i, none⟩ = some (.int .u8 x)) := Lib.hid (fun i x hi => by
        have := hcell i x hi 0 _ rfl
        rw [Nat.mul_one, Nat.add_zero] at this
        exact (Hb.out.cell (block_lt_of_cell this)).trans this)
      obtain ⟨x, hxk⟩ : ∃ x, bs[k]? = some x := ⟨_, List.getElem?_eq_getElem (by rw [← Hn.out]; exact hkn)⟩
      have d0 := Hce.out k x hxk
      have hdr : bs.drop k = x :: bs.drop (k + 1) := by
        obtain ⟨h1, h2⟩ := List.getElem?_eq_some_iff.1 hxk
        rw [List.drop_eq_getElem_cons h1, h2]
      have Hdr := Lib.hid hdr
      have hx256 := Hby.out x (List.mem_of_getElem? hxk)
      clear hcell hxk hdr
      by_cases hx0 : x = 0
      · subst hx0
        by_cases hk1 : k + 1 < n
        · obtain ⟨y, hyk⟩ : ∃ y, bs[k + 1]? = some y := ⟨_, List.getElem?_eq_getElem (by rw [← Hn.out]; exact hk1)⟩
          have d1 := Hce.out (k + 1) y hyk
          have hdr : bs.drop (k + 1) = y :: bs.drop (k + 2) := by
            obtain ⟨h1, h2⟩ := List.getElem?_eq_some_iff.1 hyk
            rw [List.drop_eq_getElem_cons h1, h2]
          have Hd2 := Lib.hid hdr
          have hy256 := Hby.out y (List.mem_of_getElem? hyk)
          have hne : ((k : Int) + 1 == (n : Int)) = false := beq_eq_false_iff_ne.2 (by omega)
          clear hyk hdr Hce
          by_cases hy1 : y = 1
          · subst hy1
            have Hres : Hid (usr bs = some (out, k + 2)) := Lib.hid (by rw [Husr.out, Hdr.out, Hd2.out, usr_z1])
            go_wp2_with fail
            go_ret3
            rw [Hres.out]
            have hfo : OwnBs wo w.heap.size (.slice oa on oc) out := by rw [Hon.out]; exact Hown.out
            exact ⟨_, rfl, hfo, Hb.out⟩
          · by_cases hy2 : y = 255
            · subst hy2
              have Hres : Hid (usr bs = (usr (bs.drop (k + 2))).map (usrG (out ++ [0]) (k + 2))) := Lib.hid (by rw [Husr.out, Hdr.out, Hd2.out, usr_z255])
              obtain ⟨a', n', c', w2, hrun, hown2, hb2⟩ := push_bs wo w.heap.size _ out 0 Hown.out (by rw [← Hon.out]; omega) Hb.out.size
              rw [← Hon.out] at hrun
              have Hown2 := Lib.hid hown2
              have Hb2 := Lib.hid (Hb.out.trans hb2)
              clear hown2 hb2 Hown Hb
              go_wp2_with (at_builtin; first | (refine wpList_val rfl _ _ (run_append_op (.tmp 47) (.tmp 48) 34 34 rfl rfl rfl hrun) ?_) | (refine wpList_val rfl _ _ (run_append_op (.tmp 47) (.tmp 48) 34 34 rfl (by simp) (by simp) hrun) ?_))
              go_roundw
              case rel => exact ⟨k + 2, out ++ [0], by omega, by go_num, by rw [List.length_append, ← Hon.out, List.length_singleton]; omega, Hres.out, Hown2.out, Hb2.out⟩
              case measure => simp [intOf]; omega
            · have Hres : Hid (usr bs = none) := Lib.hid (by rw [Husr.out, Hdr.out, Hd2.out, usr_zx hy1 hy2])
              have g1 : ((y : Int) == 1) = false := beq_eq_false_iff_ne.2 (by omega)
              have g2 : ((y : Int) == 255) = false := beq_eq_false_iff_ne.2 (by omega)
              have g1' : ¬ (y : Int) = 1 := by omega
              have g2' : ¬ (y : Int) = 255 := by omega
              go_wp2_with fail
              go_ret3
              rw [Hres.out]
              exact ⟨rfl, Hb.out⟩
        · obtain rfl : n = k + 1 := by omega
          have Hres : Hid (usr bs = none) := Lib.hid (by rw [Husr.out, Hdr.out, List.drop_of_length_le (by rw [← Hn.out]; exact Nat.le_refl _), usr_z])
          clear Hce
          go_wp2_with fail
          go_ret3
          rw [Hres.out]
          exact ⟨rfl, Hb.out⟩
      · have Hres : Hid (usr bs = (usr (bs.drop (k + 1))).map (usrG (out ++ [x]) (k + 1))) := Lib.hid (by rw [Husr.out, Hdr.out, usr_nz hx0])
        have g0 : ((x : Int) == 0) = false := beq_eq_false_iff_ne.2 (by omega)
        have g0' : ¬ (x : Int) = 0 := by omega
        obtain ⟨a', n', c', w2, hrun, hown2, hb2⟩ := push_bs wo w.heap.size _ out x Hown.out (by rw [← Hon.out]; omega) Hb.out.size
        rw [← Hon.out] at hrun
        have Hown2 := Lib.hid hown2
        have Hb2 := Lib.hid (Hb.out.trans hb2)
        clear hown2 hb2 Hown Hb Hce
        go_wp2_with (at_builtin; first | (refine wpList_val rfl _ _ (run_append_op (.tmp 18) (.tmp 23) 34 34 rfl rfl rfl hrun) ?_) | (refine wpList_val rfl _ _ (run_append_op (.tmp 18) (.tmp 23) 34 34 rfl (by simp) (by simp) hrun) ?_))
        go_roundw
        case rel => exact ⟨k + 1, out ++ [x], by omega, by go_num, by rw [List.length_append, ← Hon.out, List.length_singleton]; omega, Hres.out, Hown2.out, Hb2.out⟩
        case measure => simp [intOf]; omega
    · obtain rfl : n = k := by omega
      have Hres : Hid (usr bs = none) := Lib.hid (by rw [Husr.out, List.drop_of_length_le (by rw [← Hn.out]; exact Nat.le_refl _), usr_nil])
      go_wp2_with fail
      go_ret3
      rw [Hres.out]
      exact ⟨rfl, Hb.out⟩
end Go.Proofs.Ythjjelomlgmllaa.Tithe
