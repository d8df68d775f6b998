/- What Fold tells: plain; the rows that it pushes to; the map as its data stand. -/
import Derived.Test.YtbnodgoccmhjkaaFlatSort
import Derived.Test.YtbnodgoccmhjkaaFlatIter
import Derived.Maps.RangeWalk
import Derived.Maps.OwnIn
import Derived.Maps.OwnOps
namespace Go.Proofs.Ytbnodgoccmhjkaa.Tithe
open Go.RowKit Go.Sort Go.Shelf Go.Maps
set_option linter.unusedVariables false
set_option linter.unusedSimpArgs false
set_option maxRecDepth 100000
abbrev FunO := ByteArray → Option ByteArray
def stepF (F : FunO) (x : Bo) : FunO := fun u => if u = x.u then (if x.k = 1 then some x.v else none) else F u
def foldF (l : List Bo) : FunO := l.foldl stepF (fun _ => none)
theorem foldF_snoc (l : List Bo) (x : Bo) : foldF (l ++ [x]) = stepF (foldF l) x := by unfold foldF; rw [List.foldl_append]; rfl
theorem foldF_put (F : FunO) (u v : ByteArray) : stepF F ⟨1, u, v⟩ = fun x => if x = u then some v else (if x = u then none else F x) := by
  funext x
  unfold stepF
  dsimp only
  by_cases h : x = u
  · simp [h]
  · simp [h]
theorem foldF_del (F : FunO) (k : Int) (u v : ByteArray) (hk : ¬ k = 1) : stepF F ⟨k, u, v⟩ = fun x => if x = u then none else F x := by
  funext x
  unfold stepF
  dsimp only
  rw [if_neg hk]
theorem foldF_find (key : ByteArray) : ∀ (l : List Bo) (F : FunO) (st : ByteArray × Bool), F key = (if st.2 then some st.1 else none) → (l.foldl stepF F) key = (if (l.foldl (findS key) st).2 then some (l.foldl (findS key) st).1 else none)
  | [], F, st, h => h
  | x :: l, F, st, h => by
    show (l.foldl stepF (stepF F x)) key = _
    refine foldF_find key l (stepF F x) (findS key st x) ?_
    unfold stepF findS
    by_cases hx : x.u = key
    · rw [if_pos hx.symm, if_pos hx]
      by_cases hk : x.k = 1
      · simp [hk]
      · simp [hk]
    · rw [if_neg (fun e => hx e.symm), if_neg hx]
      exact h
theorem foldF_is (key : ByteArray) (l : List Bo) : foldF l key = (if (findL key l).2 then some (findL key l).1 else none) := foldF_find key l _ _ rfl
theorem foldF_small {B : Nat} {l : List Bo} (h : ∀ x ∈ l, x.v.size ≤ B) {u v : ByteArray} (hv : foldF l u = some v) : v.size ≤ B := by
  have key : ∀ (l : List Bo) (F : FunO), (∀ x ∈ l, x.v.size ≤ B) → (∀ u v, F u = some v → v.size ≤ B) → ∀ u v, (l.foldl stepF F) u = some v → v.size ≤ B := by
    intro l
    induction l with
    | nil => intro F _ hF; exact hF
    | cons x l ih =>
      intro F hl hF
      refine ih (stepF F x) (fun y hy => hl y (List.mem_cons_of_mem _ hy)) (fun u v q => ?_)
      unfold stepF at q
      split at q
      · split at q
        · injection q with q
          rw [← q]
          exact hl x List.mem_cons_self
        · cases q
      · exact hF u v q
  exact key l _ h (fun u v q => by cases q) u v hv
/-- a text of a list of bytes -/
def ba (x : List UInt8) : ByteArray := ⟨x.toArray⟩
theorem ba_list (u : ByteArray) : ba u.data.toList = u := by
  unfold ba
  obtain ⟨d⟩ := u
  simp
theorem klS_ba (x : List UInt8) : klS (ba x) = .string x := by unfold klS ba; simp
/-- the keys that a state has, in order -/
structure KeysIs (F : FunO) (ks : List (List UInt8)) : Prop where
  nd : ks.Nodup
  up : ks.Pairwise (fun a b => leB a b = true)
  iff : ∀ x, x.length ≤ maxLen → (x ∈ ks ↔ (F (ba x)).isSome = true)
  le : ∀ x ∈ ks, x.length ≤ maxLen
def valO (F : FunO) (x : List UInt8) : ByteArray := (F (ba x)).getD ⟨#[]⟩
def outO (F : FunO) (ks : List (List UInt8)) : List Bo := ks.map fun x => ⟨1, ba x, valO F x⟩
theorem leB_trans (a b c : List UInt8) (h1 : leB a b = true) (h2 : leB b c = true) : leB a c = true := by
  simp only [leB, decide_eq_true_eq] at *
  exact List.le_trans h1 h2
theorem leB_total (a b : List UInt8) : (leB a b || leB b a) = true := by
  simp only [leB, Bool.or_eq_true, decide_eq_true_eq]
  exact List.le_total a b
theorem keys_of {D : DataW Unit} {F : FunO} {left : Lit → Bool} {ss : List (List UInt8)} (hC : Collected D left ss) (hl : ∀ kl, left kl = false) (hat : ∀ u : ByteArray, u.size ≤ maxLen → AtS D u (F u)) (hle : ∀ x ∈ ss, x.length ≤ maxLen) : KeysIs F (ss.mergeSort leB) := by
  have hp := List.mergeSort_perm ss leB
  refine ⟨hp.nodup_iff.2 hC.1, List.pairwise_mergeSort leB_trans leB_total ss, fun x hx => ?_, fun x hx => hle x (hp.mem_iff.1 hx)⟩
  rw [hp.mem_iff, hC.2 x, hl]
  have h1 := hat (ba x) (by show x.toArray.size ≤ maxLen; simpa using hx)
  unfold AtS at h1
  rw [klS_ba] at h1
  cases hF : F (ba x) with
  | none => rw [hF] at h1; dsimp only at h1; simp [h1]
  | some v => rw [hF] at h1; dsimp only at h1; simp [h1.2.1]
theorem keys_uniq {F : FunO} {a b : List (List UInt8)} (ha : KeysIs F a) (hb : KeysIs F b) : a = b := by
  refine List.Perm.eq_of_pairwise (le := fun a b => leB a b = true) (fun a b _ _ h1 h2 => ?_) ha.up hb.up ((List.perm_ext_iff_of_nodup ha.nd hb.nd).2 fun x => ?_)
  · simp only [leB, decide_eq_true_eq] at h1 h2
    exact List.le_antisymm h1 h2
  · constructor
    · intro h; exact (hb.iff x (ha.le x h)).2 ((ha.iff x (ha.le x h)).1 h)
    · intro h; exact (ha.iff x (hb.le x h)).2 ((hb.iff x (hb.le x h)).1 h)
theorem at_del {D : DataW Unit} (hM : IsMap D) {F : FunO} (h2 : ∀ u : ByteArray, u.size ≤ maxLen → AtS D u (F u)) (u : ByteArray) (x : ByteArray) (hx : x.size ≤ maxLen) : AtS (D.del (klS u)) x (if x = u then none else F x) := by
  by_cases e : x = u
  · subst e
    simp only [if_pos]
    exact has_del_same
  · simp only [if_neg e]
    have h4 := h2 x hx
    cases hF : F x with
    | none =>
      rw [hF] at h4
      show has (D.del (klS u)) (klS x) = false
      rw [has_del_other (klS_ne e)]; exact h4
    | some y =>
      rw [hF] at h4
      refine ⟨h4.1, ?_, fun z => ?_⟩
      · rw [has_del_other (klS_ne e)]; exact h4.2.1
      · rw [atKey_del_other (klS_ne e)]; exact h4.2.2 z
theorem at_put {D : DataW Unit} (hM : IsMap D) {F : FunO} (h2 : ∀ u : ByteArray, u.size ≤ maxLen → AtS D u (F u)) (u v : ByteArray) (hv : v.size ≤ maxLen) (x : ByteArray) (hx : x.size ≤ maxLen) : AtS (D.put (klS u) (.lit (.string v.data.toList))) x (if x = u then some v else F x) := by
  by_cases e : x = u
  · subst e
    simp only [if_pos]
    exact ⟨hv, has_put_same hM (strLaw.key (keyOf_str' hx)) _, fun z => atKey_put_same hM (strLaw.key (keyOf_str' hx)) _ z⟩
  · simp only [if_neg e]
    have h4 := h2 x hx
    cases hF : F x with
    | none =>
      rw [hF] at h4
      show has (D.put (klS u) _) (klS x) = false
      rw [has_put_other (klS_ne e)]; exact h4
    | some y =>
      rw [hF] at h4
      refine ⟨h4.1, ?_, fun z => ?_⟩
      · rw [has_put_other (klS_ne e)]; exact h4.2.1
      · rw [atKey_put_other (klS_ne e)]; exact h4.2.2 z
theorem OwnsSs.of_del {W1 : World} {b n : Nat} {D : DataW Unit} {F : FunO} (hM : IsMap D) (hat : ∀ u : ByteArray, u.size ≤ maxLen → AtS D u (F u)) (u : ByteArray) (h1 : W1.ownsMap Try.prog 9 strEl b n (D.del (klS u))) : OwnsSs W1 b n (fun x => if x = u then none else F x) := ⟨_, h1, hM.del _, fun x hx => at_del hM hat u x hx⟩
theorem OwnsSs.of_put {W1 : World} {b n : Nat} {D : DataW Unit} {F : FunO} (hM : IsMap D) (hat : ∀ u : ByteArray, u.size ≤ maxLen → AtS D u (F u)) (u v : ByteArray) (hv : v.size ≤ maxLen) (h1 : W1.ownsMap Try.prog 9 strEl b n (D.put (klS u) (.lit (.string v.data.toList)))) : OwnsSs W1 b n (fun x => if x = u then some v else F x) := ⟨_, h1, hM.put _ _, fun x hx => at_put hM hat u v hv x hx⟩
theorem strInfo : (Try.prog.info? 9).map (fun i => (i.zero, i.size, i.bytes)) = some (some (.string ⟨#[]⟩), 1, 16) := by kernel_rfl
/-- texts -/
def strC (x : List UInt8) : List Value := [encStr x]
theorem strC_len (x : List UInt8) : (strC x).length = 1 := rfl
theorem flat_str (l : List (List UInt8)) : flat strC l = l.map encStr := by
  induction l with
  | nil => rfl
  | cons x l ih => show strC x ++ flat strC l = _; rw [ih]; rfl
theorem push_st (W0 : World) (base : Nat) (xa : Option Addr) (rl xc : Nat) (l : List (List UInt8)) (x : List UInt8) (h : W0.ownsRow base 9 1 (.slice xa rl xc) rl (l.map encStr)) (hl : rl ≤ 1000000) (hb : base ≤ W0.heap.size) :
    ∃ ya yc w2, (Builtin.append_ #[44, 44] 44 #[.slice xa rl xc, .slice (some ⟨W0.heap.size, 0, none⟩) 1 1]).run Try.prog (W0.alloc (.cells #[encStr x] 9)) = .ok (.slice ya (rl + 1) yc) w2 ∧
      w2.ownsRow base 9 1 (.slice ya (rl + 1) yc) (rl + 1) ((l ++ [x]).map encStr) ∧ (W0.alloc (.cells #[encStr x] 9)).grownBy w2 (Value.slice xa rl xc).ownBlock := by
  obtain ⟨i0, hi0, hz0, hz1, hz2⟩ := info_partsO strInfo
  have h' := own_below h ((Below.refl _ W0).alloc (Nat.le_refl _) (.cells #[encStr x] 9))
  obtain ⟨g, yc, w2, hrun, hown, hg, hlies, -⟩ := run_append_lies (P := Try.prog) (W0.alloc (.cells #[encStr x] 9)) 44 44 base 9 i0 (.string ⟨#[]⟩) 1 16 Try.underlying44 hi0 hz0 hz1 hz2 rfl (by decide)
    (.slice xa rl xc) rl (l.map encStr) h' ⟨W0.heap.size, 0, none⟩ 1 1 [encStr x] rfl (newsL _ _ rfl _ _ rfl) (by intro u hu; simp at hu; subst hu; rfl) (by omega) (by unfold maxLen; omega) (by omega) (by simp; omega) _ rfl
  refine ⟨some ⟨g, 0, none⟩, yc, w2, hrun, ?_, hg⟩
  rw [List.map_append]
  exact hown
theorem push_bo (W0 : World) (base : Nat) (xa : Option Addr) (rl xc : Nat) (l : List Bo) (x : Bo) (h : W0.ownsRow base 40 3 (.slice xa rl xc) rl (flat Bo.cells l)) (hl : rl ≤ 1000000) (hb : base ≤ W0.heap.size) :
    ∃ ya yc w2, (Builtin.append_ #[37, 37] 37 #[.slice xa rl xc, .slice (some ⟨W0.heap.size, 0, none⟩) 1 1]).run Try.prog (W0.alloc (.cells #[.int .i64 x.k, .string x.u, .string x.v] 40)) = .ok (.slice ya (rl + 1) yc) w2 ∧
      w2.ownsRow base 40 3 (.slice ya (rl + 1) yc) (rl + 1) (flat Bo.cells (l ++ [x])) ∧ (W0.alloc (.cells #[.int .i64 x.k, .string x.u, .string x.v] 40)).grownBy w2 (Value.slice xa rl xc).ownBlock := by
  obtain ⟨i0, hi0, hz0, hz1, hz2⟩ := info_partsO boInfo
  have h' := own_below h ((Below.refl _ W0).alloc (Nat.le_refl _) (.cells #[.int .i64 x.k, .string x.u, .string x.v] 40))
  obtain ⟨g, yc, w2, hrun, hown, hg, hlies, -⟩ := run_append_lies (P := Try.prog) (W0.alloc (.cells #[.int .i64 x.k, .string x.u, .string x.v] 40)) 37 37 base 40 i0 (.agg #[.int .i64 0, .string ⟨#[]⟩, .string ⟨#[]⟩]) 3 40 Try.underlying37 hi0 hz0 hz1 hz2 rfl (by decide)
    (.slice xa rl xc) rl (flat Bo.cells l) h' ⟨W0.heap.size, 0, none⟩ 1 1 (Bo.cells x) rfl (newsL _ _ rfl _ _ rfl) (bo_one x) (by omega) (by unfold maxLen; omega) (by omega) (by simp; omega) _ rfl
  refine ⟨some ⟨g, 0, none⟩, yc, w2, hrun, ?_, hg⟩
  rw [flat_append, flat_one]
  exact hown
end Go.Proofs.Ytbnodgoccmhjkaa.Tithe
