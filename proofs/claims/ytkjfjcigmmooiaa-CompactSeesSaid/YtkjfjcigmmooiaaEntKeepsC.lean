/- What the law CompactKeeps needs besides: the users whose deletes must stay; rows of strings of a call's own. -/
import Derived.Test.YtkjfjcigmmooiaaEntRKeep
import Derived.Test.YtkjfjcigmmooiaaCompactCuts
namespace Go.Proofs.Ytkjfjcigmmooiaa.Tithe
open Go.RowKit Go.Sort Go.Shelf
set_option linter.unusedVariables false
set_option maxRecDepth 100000
def deepL (dp : ByteArray → Bool) (l : List En) : List ByteArray := (l.filter fun x => dp x.key.u).map (·.key.u)
theorem deepL_len (dp : ByteArray → Bool) (l : List En) : (deepL dp l).length ≤ l.length := by
  unfold deepL
  rw [List.length_map]
  exact List.length_filter_le _ _
theorem deepL_succ (dp : ByteArray → Bool) {l : List En} {k : Nat} {x : En} (h : l[k]? = some x) : deepL dp (l.take (k + 1)) = deepL dp (l.take k) ++ (if dp x.key.u = true then [x.key.u] else []) := by
  unfold deepL
  rw [List.take_add_one, h, List.filter_append, List.map_append]
  cases hd : dp x.key.u <;> simp [hd]
theorem deepL_any (dp : ByteArray → Bool) {l : List En} {x : En} (h : x ∈ l) : ((deepL dp l).any fun d => decide (d = x.key.u)) = dp x.key.u := by
  rw [Bool.eq_iff_iff, List.any_eq_true]
  unfold deepL
  constructor
  · rintro ⟨d, hd, e⟩
    obtain ⟨y, hy, rfl⟩ := List.mem_map.1 hd
    rw [← of_decide_eq_true e]
    exact (List.mem_filter.1 hy).2
  · intro hq
    exact ⟨x.key.u, List.mem_map.2 ⟨x, List.mem_filter.2 ⟨h, hq⟩, rfl⟩, decide_eq_true rfl⟩
theorem finK_congr (cv dp : ByteArray → Bool) : ∀ A : List Mk, (∀ a ∈ A, cv a.1.key.u = dp a.1.key.u) → finK cv A = finK dp A
  | [], _ => rfl
  | x :: t, h => by
    have ih := finK_congr cv dp t (fun a ha => h a (List.mem_cons_of_mem _ ha))
    show (x.1, x.2 && !(decide (x.1.key.k = 2) && (!((finK cv t).any fun y => decide (y.1.key.u = x.1.key.u) && y.2) && !cv x.1.key.u))) :: finK cv t = (x.1, x.2 && !(decide (x.1.key.k = 2) && (!((finK dp t).any fun y => decide (y.1.key.u = x.1.key.u) && y.2) && !dp x.1.key.u))) :: finK dp t
    rw [ih, h x List.mem_cons_self]
theorem right_ord {l : List En} {most : Int} (h : rightE l most = true) : OrdE l := by
  have key : ∀ (d i : Nat) (x y : En), l[i]? = some x → l[i + (d + 1)]? = some y → cmpK x.key y.key < 0 := by
    intro d
    induction d with
    | zero =>
      intro i x y hx hy
      have h2 := (right_at h hy).2.2
      rw [show i + (0 + 1) - 1 = i by omega, List.getD_eq_getElem?_getD, hx] at h2
      rcases h2 with h2 | h2
      · omega
      · exact h2
    | succ d ih =>
      intro i x y hx hy
      have hlt := (List.getElem?_eq_some_iff.1 hy).1
      have hz := List.getElem?_eq_getElem (l := l) (i := i + (d + 1)) (by omega)
      have h1 := ih i x _ hx hz
      have h2 := (right_at h hy).2.2
      rw [show i + (d + 1 + 1) - 1 = i + (d + 1) by omega, List.getD_eq_getElem?_getD, hz] at h2
      rcases h2 with h2 | h2
      · omega
      · exact cmpK_trans h1 h2
  rw [OrdE, List.pairwise_iff_getElem]
  intro i j hi hj hij
  exact key (j - i - 1) i _ _ (List.getElem?_eq_getElem hi) (by rw [show i + (j - i - 1 + 1) = j by omega]; exact List.getElem?_eq_getElem hj)
theorem right_s {l : List En} {most : Int} (h : rightE l most = true) {x : En} (hx : x ∈ l) : x.key.s ≤ 1099511627776 ∧ x.key.u.size ≤ 64 := by
  obtain ⟨k, hk⟩ := List.mem_iff_getElem?.1 hx
  have := (right_at h hk).2.1
  unfold okK at this
  simp only [Bool.and_eq_true, decide_eq_true_eq] at this
  omega
/-- the document's answer is compact.Keep's -/
theorem keeps_plain (l : List En) (zs : List Int) (dp : ByteArray → Bool) {most : Int} (h : rightE l most = true) :
    keptM (finK (fun u => (deepL dp l).any fun d => decide (d = u)) ((List.range l.length).map fun j => (l.getD j En.nil, k0 l zs j))) = keepTo (groupsL l) zs dp (groupsL l).length := by
  rw [finK_congr _ dp _ (fun a ha => by
    obtain ⟨j, hj, rfl⟩ := List.mem_map.1 ha
    have hjl := List.mem_range.1 hj
    have : l.getD j En.nil ∈ l := by
      rw [List.getD_eq_getElem?_getD, List.getElem?_eq_getElem hjl]
      exact List.getElem_mem hjl
    exact deepL_any dp this)]
  have hk := keep_plain zs dp (groupsL l) l [] (isGr_groups l) (right_ord h) (fun a ha => by cases ha) (fun x hx => (right_s h hx).1)
  simp only [List.nil_append, List.length_nil, Nat.zero_add] at hk
  rw [hk]
  unfold keepTo
  rw [List.take_length]
theorem strInfo : (Try.prog.info? 9).map (fun i => (i.zero, i.size, i.bytes)) = some (some (.string ⟨#[]⟩), 1, 16) := by kernel_rfl
/-- rows of strings, of a call's own -/
abbrev OwnSx (W : World) (base : Nat) (v : Value) (l : List ByteArray) : Prop := W.ownsRow base 9 1 v l.length (flat sxC l)
theorem push_sx (W0 : World) (base : Nat) (xa : Option Addr) (rl xc : Nat) (l : List ByteArray) (x : ByteArray) (h : OwnSx W0 base (.slice xa rl xc) l) (hl : rl ≤ 1000000) (hb : base ≤ W0.heap.size) :
    ∃ ya yc w2, (Builtin.append_ #[52, 52] 52 #[.slice xa rl xc, .slice (some ⟨W0.heap.size, 0, none⟩) 1 1]).run Try.prog (W0.alloc (.cells #[.string x] 9)) = .ok (.slice ya (rl + 1) yc) w2 ∧
      OwnSx w2 base (.slice ya (rl + 1) yc) (l ++ [x]) ∧ (W0.alloc (.cells #[.string x] 9)).grownBy w2 (Value.slice xa rl xc).ownBlock := by
  obtain ⟨i0, hi0, hz0, hz1, hz2⟩ := info_partsL strInfo
  have h' : OwnSx (W0.alloc (.cells #[.string x] 9)) base (.slice xa rl xc) l := own_below h ((Below.refl _ _).alloc (Nat.le_refl _) _)
  have hrl : rl = l.length := by
    rcases h.2 with ⟨e, h⟩ | ⟨g, cap, cur, e, -⟩
    · injection e with _ e _; rw [e, h]
    · injection e with _ e _
  obtain ⟨g, yc, w2, hrun, hown, hg, hlies, -⟩ := run_append_lies (P := Try.prog) (W0.alloc (.cells #[.string x] 9)) 52 52 base 9 i0 (.string ⟨#[]⟩) 1 16 Try.underlying52 hi0 hz0 hz1 hz2 rfl (by decide)
    (.slice xa rl xc) l.length (flat sxC l) h' ⟨W0.heap.size, 0, none⟩ 1 1 (sxC x) rfl (newsL _ _ rfl _ _ rfl) (by intro u hu; simp [sxC] at hu; rcases hu with rfl; rfl) (by omega) (by unfold maxLen; omega) (by omega) (by simp; omega) _ rfl
  refine ⟨some ⟨g, 0, none⟩, yc, w2, by rw [hrl] at hrun ⊢; exact hrun, ?_, hg⟩
  rw [hrl]
  unfold OwnSx
  rw [List.length_append, flat_append, flat_one]
  exact hown
end Go.Proofs.Ytkjfjcigmmooiaa.Tithe
