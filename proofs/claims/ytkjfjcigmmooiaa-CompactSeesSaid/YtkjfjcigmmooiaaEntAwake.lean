/- The fixed answer of chapter 19: walked. -/
import Derived.Test.YtkjfjcigmmooiaaEntKeep
namespace Go.Proofs.Ytkjfjcigmmooiaa.Tithe
open Go.RowKit Go.Sort Go.Shelf
set_option linter.unusedVariables false
theorem one_any (u : ByteArray) (s k : Int) (w : World) : Calls Try.prog 27 #[.string u, .int .i64 s, .int .i64 k] w fun e w' => e = .returned (.agg #[.string u, .int .i64 s, .int .i64 k, .string ⟨#[]⟩]) ∧ Below w.heap.size w w' := by
  go_enter Try.func27, Try.ntmps27
  go_wp2
  refine bodyPost_ret (v := .agg #[.string u, .int .i64 s, .int .i64 k, .string ⟨#[]⟩]) (by simp [results, Try.results27, go_sem]) rfl ⟨rfl, ?_⟩
  exact (Below.refl _ _).alloc (Nat.le_refl _) _
def e9 : En := ⟨⟨⟨#[97]⟩, 9, 1⟩, ⟨#[]⟩⟩
def e7 : En := ⟨⟨⟨#[97]⟩, 7, 1⟩, ⟨#[]⟩⟩
def e4 : En := ⟨⟨⟨#[97]⟩, 4, 2⟩, ⟨#[]⟩⟩
theorem aw_groups : groupsL [e9, e7, e4] = [[e9, e7, e4]] := rfl
theorem aw_seen : seenTo [e9, e7, e4] [7] 3 = [e9, e7] := rfl
theorem aw_keep : keepTo [[e9, e7, e4]] [7] (fun _ => false) 1 = [e9, e7] := rfl
theorem keep_aw (W : World) :
    Calls Try.prog 20 #[.slice (some ⟨W.heap.size, 0, none⟩) 3 3, .slice (some ⟨W.heap.size + 1, 0, none⟩) 1 1, .agg #[.slice none 0 0, .slice none 0 0, .slice none 0 0, .slice none 0 0], .int .i64 0] ((W.alloc (.cells #[.string ⟨#[97]⟩, .int .i64 9, .int .i64 1, .string ⟨#[]⟩, .string ⟨#[97]⟩, .int .i64 7, .int .i64 1, .string ⟨#[]⟩, .string ⟨#[97]⟩, .int .i64 4, .int .i64 2, .string ⟨#[]⟩] 30)).alloc (.cells #[.int .i64 7] 3)) fun e w' => ∃ g c, e = .returned (.slice (some ⟨g, 0, none⟩) 2 c) ∧ w'.cell? ⟨g, 5, none⟩ = some (.int .i64 7) ∧ Below W.heap.size W w' := by
  have hb1 : Below W.heap.size W (W.alloc (.cells #[.string ⟨#[97]⟩, .int .i64 9, .int .i64 1, .string ⟨#[]⟩, .string ⟨#[97]⟩, .int .i64 7, .int .i64 1, .string ⟨#[]⟩, .string ⟨#[97]⟩, .int .i64 4, .int .i64 2, .string ⟨#[]⟩] 30)) := (Below.refl _ _).alloc (Nat.le_refl _) _
  have hb2 : Below W.heap.size W ((W.alloc (.cells #[.string ⟨#[97]⟩, .int .i64 9, .int .i64 1, .string ⟨#[]⟩, .string ⟨#[97]⟩, .int .i64 7, .int .i64 1, .string ⟨#[]⟩, .string ⟨#[97]⟩, .int .i64 4, .int .i64 2, .string ⟨#[]⟩] 30)).alloc (.cells #[.int .i64 7] 3)) := hb1.alloc hb1.size _
  have h1 : IsEs (W.alloc (.cells #[.string ⟨#[97]⟩, .int .i64 9, .int .i64 1, .string ⟨#[]⟩, .string ⟨#[97]⟩, .int .i64 7, .int .i64 1, .string ⟨#[]⟩, .string ⟨#[97]⟩, .int .i64 4, .int .i64 2, .string ⟨#[]⟩] 30)) (.slice (some ⟨W.heap.size, 0, none⟩) 3 3) [e9, e7, e4] := isSl_lit en_len [e9, e7, e4] _ _ _ rfl rfl 3 rfl (by decide)
  have h2 : IsEs ((W.alloc (.cells #[.string ⟨#[97]⟩, .int .i64 9, .int .i64 1, .string ⟨#[]⟩, .string ⟨#[97]⟩, .int .i64 7, .int .i64 1, .string ⟨#[]⟩, .string ⟨#[97]⟩, .int .i64 4, .int .i64 2, .string ⟨#[]⟩] 30)).alloc (.cells #[.int .i64 7] 3)) (.slice (some ⟨W.heap.size, 0, none⟩) 3 3) [e9, e7, e4] := h1.below ((Below.refl _ _).alloc (Nat.le_refl _) _)
  have h3 : IsZs ((W.alloc (.cells #[.string ⟨#[97]⟩, .int .i64 9, .int .i64 1, .string ⟨#[]⟩, .string ⟨#[97]⟩, .int .i64 7, .int .i64 1, .string ⟨#[]⟩, .string ⟨#[97]⟩, .int .i64 4, .int .i64 2, .string ⟨#[]⟩] 30)).alloc (.cells #[.int .i64 7] 3)) (.slice (some ⟨W.heap.size + 1, 0, none⟩) 1 1) [7] := isSl_lit intC_len [7] _ _ _ (by simp) rfl 1 rfl (by decide)
  have hgr := isGr_groups [e9, e7, e4]
  rw [aw_groups] at hgr
  refine (keep_any _ _ 3 3 1 1 [e9, e7, e4] [7] [[e9, e7, e4]] _ _ _ _ 0 (fun _ => false) (fun _ => False) _ h2 h3 hgr (by decide) (fun k g hg he => ?_) (fun _ _ h => h.elim)).mono ?_
  · match k, hg with
    | 0, hg =>
      cases hg
      obtain ⟨-, h⟩ := he
      have : ([e9, e7] : List En).getD 1 En.nil = e7 := rfl
      rw [show (seenTo [e9, e7, e4] [7] [e9, e7, e4].length) = [e9, e7] from rfl] at h
      exact absurd (show ((1 : Int) = 2) from h) (by decide)
    | k + 1, hg => simp at hg
  · rintro e w' ⟨v', rfl, ho, hb⟩
    rw [show keepTo [[e9, e7, e4]] [7] (fun _ => false) [[e9, e7, e4]].length = [e9, e7] from rfl] at ho
    have hi := isSl_own (l := [e9, e7]) en_len ho
    obtain ⟨g, c, rfl, -, -⟩ := ho.form (by decide)
    obtain ⟨b', o', e, hc⟩ := hi.at.2.2.2 (by decide)
    injection e with e
    injection e with e1 e2
    subst e1 e2
    exact ⟨g, c, rfl, hc 1 e7 rfl 1 _ rfl, hb2.trans (hb.mono hb2.size)⟩
set_option maxHeartbeats 1600000 in
theorem awake_any (w : World) : Calls Try.prog 9 #[] w fun e w' => e = .returned (.bool true) ∧ Below w.heap.size w w' := by
  go_enter Try.func9, Try.ntmps9
  go_wp2_with fail
  refine (one_any _ _ _ _).mono ?_
  rintro e w1 ⟨rfl, hb1⟩
  go_wp2_with fail
  refine (one_any _ _ _ _).mono ?_
  rintro e w2 ⟨rfl, hb2⟩
  go_wp2_with fail
  refine (one_any _ _ _ _).mono ?_
  rintro e w3 ⟨rfl, hb3⟩
  have hb : Below w.heap.size w w3 := (hb1.trans (hb2.mono hb1.size)).trans (hb3.mono (Nat.le_trans hb1.size hb2.size))
  have Hb := Lib.hid hb
  clear hb1 hb2 hb3 hb
  go_wp2_with fail
  refine (keep_aw w3).mono ?_
  rintro e w4 ⟨g, c, rfl, hc, hb4⟩
  have Hb4 := Lib.hid (Hb.out.trans (hb4.mono Hb.out.size))
  clear hb4
  go_wp2
  go_ret
  exact ⟨rfl, Hb4.out⟩
end Go.Proofs.Ytkjfjcigmmooiaa.Tithe
