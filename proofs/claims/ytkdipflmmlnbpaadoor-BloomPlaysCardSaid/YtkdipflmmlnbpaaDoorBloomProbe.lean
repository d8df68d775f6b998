/- The probes of a key, as an iterator; Bits, Probes. -/
import Derived.Test.YtkdipflmmlnbpaaDoorCoreWalk
import Derived.Test.YtkdipflmmlnbpaaDoorBloomSpec
import Derived.Test.YtkdipflmmlnbpaaDoorRange
namespace Go.Proofs.YtkdipflmmlnbpaaDoor.Tithe
open Go.RowKit Go.Sort Go.Shelf
set_option linter.unusedVariables false
attribute [local go_sem] Oper.semAt_some
theorem probe_any (ka : Option Addr) (kn kc : Nat) (n p : Int) (w : World) :
    Calls Tryd.prog 27 #[.slice ka kn kc, .int .i64 n, .int .i64 p] w fun e w' => e = .returned (.func (.func 33) #[] #[.pointer (some ⟨w.heap.size, 0, none⟩), .pointer (some ⟨w.heap.size + 1 + 1, 0, none⟩), .pointer (some ⟨w.heap.size + 1, 0, none⟩)]) ∧ ((w.alloc (.cells #[.slice ka kn kc] 29)).alloc (.cells #[.int .i64 n] 3)).alloc (.cells #[.int .i64 p] 3) = w' := by
  go_enter Tryd.func27, Tryd.ntmps27
  go_wp2
  go_ret
  exact ⟨rfl, rfl⟩
theorem probe_facts (ka : Option Addr) (kn kc : Nat) (n p : Int) (w : World) (s : Nat) (hs : w.heap.size = s) :
    Calls Tryd.prog 27 #[.slice ka kn kc, .int .i64 n, .int .i64 p] w fun e w' => e = .returned (.func (.func 33) #[] #[.pointer (some ⟨s, 0, none⟩), .pointer (some ⟨s + 1 + 1, 0, none⟩), .pointer (some ⟨s + 1, 0, none⟩)]) ∧ Below s w w' ∧ w'.heap.size = s + 3 ∧
      w'.cell? ⟨s, 0, none⟩ = some (.slice ka kn kc) ∧ w'.cell? ⟨s + 1, 0, none⟩ = some (.int .i64 n) ∧ w'.cell? ⟨s + 1 + 1, 0, none⟩ = some (.int .i64 p) := by
  refine (probe_any ka kn kc n p w).mono ?_
  rintro e w' ⟨rfl, rfl⟩
  subst hs
  refine ⟨rfl, (((Below.refl _ w).alloc (Nat.le_refl _) _).alloc (by simp) _).alloc (by simp; omega) _, by simp, ?_, ?_, ?_⟩
  · rw [World.cell?_alloc_lt _ _ _ (by simp; omega), World.cell?_alloc_lt _ _ _ (by simp), World.cell?_alloc_mark]; rfl
  · have := World.cell?_alloc_mark (w.alloc (.cells #[.slice ka kn kc] 29)) #[.int .i64 n] 3 (0, 0) 0
    rw [World.size_alloc] at this
    rw [World.cell?_alloc_lt _ _ _ (by simp), this]; rfl
  · have := World.cell?_alloc_mark ((w.alloc (.cells #[.slice ka kn kc] 29)).alloc (.cells #[.int .i64 n] 3)) #[.int .i64 p] 3 (0, 0) 0
    rw [World.size_alloc, World.size_alloc] at this
    rw [this]; rfl
/-- what the probes read -/
def ProbeDat (s : Nat) (kv : Value) (l : List Nat) (n p : Nat) (W : World) : Prop :=
  W.cell? ⟨s, 0, none⟩ = some kv ∧ W.cell? ⟨s + 1, 0, none⟩ = some (.int .i64 n) ∧ W.cell? ⟨s + 1 + 1, 0, none⟩ = some (.int .i64 p) ∧ IsBytes W kv l ∧ TabOk W
theorem IsBytes.kept {B : Nat} {W W' : World} {row : Option Nat} {v : Value} {l : List Nat} (h : IsBytes W v l) (hg : W.grownBy W' row) (hr : ∀ r, row = some r → B ≤ r ∧ ∃ o : Obj, W.heap[r]? = some o ∧ o.isCells = false) : IsBytes W' v l := by
  obtain ⟨h8, a, c, e, h1, h2, h3⟩ := h
  refine ⟨h8, a, c, e, h1, h2, fun hne => ?_⟩
  obtain ⟨b, off, ha, hc⟩ := h3 hne
  exact ⟨b, off, ha, fun i hi => cellF_kept (hc i hi) hg hr⟩
theorem TabOk.kept {B : Nat} {W W' : World} {row : Option Nat} (h : TabOk W) (hg : W.grownBy W' row) (hr : ∀ r, row = some r → B ≤ r ∧ ∃ o : Obj, W.heap[r]? = some o ∧ o.isCells = false) : TabOk W' := fun i hi => cellF_kept (h i hi) hg hr
theorem probeDat_kept (B s : Nat) (kv : Value) (l : List Nat) (n p : Nat) : OwnFrom B (fun (_ : Unit) W => ProbeDat s kv l n p W) :=
  fun _ W W' row h hg hr => ⟨cellF_kept h.1 hg hr, cellF_kept h.2.1 hg hr, cellF_kept h.2.2.1 hg hr, h.2.2.2.1.kept hg hr, h.2.2.2.2.kept hg hr⟩
theorem keyD_lt (l : List Nat) : keyD l < 4294967296 := by
  have : maskOf (moreOf 0 l) ||| 1 < 2 ^ 32 := Nat.or_lt_two_pow (maskOf_lt _) (by omega)
  exact this
theorem keyC_lt {l : List Nat} (h : ∀ x ∈ l, x < 256) : keyC l < 4294967296 := moreOf_lt (by omega) h
theorem probe_iter (s : Nat) (kv : Value) (l : List Nat) (n p : Nat) (hn : 0 < n) (hn' : n ≤ 16777216) (hp : p ≤ 1000) :
    IterOk Tryd.prog 33 #[.pointer (some ⟨s, 0, none⟩), .pointer (some ⟨s + 1 + 1, 0, none⟩), .pointer (some ⟨s + 1, 0, none⟩)] (fun k => #[.int .i64 (placeAt (keyC l) (keyD l) n k : Nat)]) p (ProbeDat s kv l n p) (fun A B => A = B) := by
  intro yl J Jx W hdat hJ hJx hY h0
  obtain ⟨d1, d2, d3, d4, d5⟩ := hdat
  have hc := keyC_lt d4.1
  have hd := keyD_lt l
  have hcl : Hid (keyC l = moreOf 0 l) := rfl
  have f1 := Lib.hid (callsIn_wide (n := 0).2 (of_any kv l W d4 d5))
  rw [← hcl.out] at f1
  have f2 := Lib.hid (callsIn_wide (n := 0).2 (mask_any (keyC l) hc W))
  have hE : bits BinOp.or IntKind.u32 (maskOf (keyC l) : Nat) 1 = (keyD l : Nat) := by
    rw [hcl.out]
    exact u32_or_nat _ 1 (maskOf_lt _) (by omega)
  have hY' := Lib.hid hY
  have hdat0 : Hid (ProbeDat s kv l n p W) := ⟨d1, d2, d3, d4, d5⟩
  clear hcl hY d4 d5 hJ hJx
  have hm := maskOf_lt (keyC l)
  generalize maskOf (keyC l) = m at *
  generalize keyC l = c at *
  generalize keyD l = d at *
  refine callsIn_of_wp Tryd.func33 rfl trivial ?_
  simp only [Tryd.ntmps33, List.size_toArray, List.length_cons, List.length_nil, Nat.reduceAdd, Nat.reduceSub, Array.replicate_succ, Array.replicate_zero, List.push_toArray, List.append_toArray, List.nil_append, List.cons_append]
  gi_wp2_with fail
  refine ⟨trivial, rfl, ?_⟩
  refine f1.out.mono ?_
  rintro e w' ⟨rfl, rfl⟩
  gi_wp2_with fail
  refine ⟨trivial, rfl, ?_⟩
  refine f2.out.mono ?_
  rintro e w' ⟨rfl, rfl⟩
  gi_wp2_with fail
  clear d1 d2 d3 f1 f2 hE
  gi_loopw [6, 17] (fun a i wr => ∃ k : Nat, k ≤ p ∧ i = .int .i64 k ∧ a = .int .u64 (c + k * d : Nat) ∧ J k wr ∧ ProbeDat s kv l n p wr) (fun _ i _ => p - (intOf i).toNat)
  case atStart => exact ⟨0, Nat.zero_le _, rfl, by simp, h0, hdat0.out⟩
  case round =>
    obtain ⟨k, hk, rfl, rfl, hJk, hdk⟩ := hrel
    by_cases hlt : k < p
    · obtain ⟨fn, tmps, assign, body, hy, hR⟩ := hY'.out k wr hlt hJk hdk
      have hk30 : k * d ≤ 1000 * 4294967296 := Nat.mul_le_mul (by omega) (by omega)
      have d3 := hdk.2.1
      have hb1 : (c + k * d : Nat) + d ≤ 4400000000000 := by omega
      have hstep : Hid (((c + k * d : Nat) : Int) + (d : Int) = ((c + (k + 1) * d : Nat) : Int)) := by
        show _ = _
        rw [Nat.add_mul]; omega
      have hpl : placeAt c d n k = (c + k * d) % n := rfl
      rw [hpl] at hy
      have hmod : (c + k * d) % n < n := Nat.mod_lt _ hn
      generalize c + k * d = a at *
      rw [show ((a % n : Nat) : Int) = (a : Int) % (n : Int) from Int.natCast_emod a n] at hy
      clear hpl
      gi_wp2

      refine ⟨rfl, hR.mono ?_⟩
      rintro e W3 (⟨rfl, hJ3, hd3⟩ | ⟨rfl, hJx3⟩)
      · gi_wp2
        go_roundw
        case rel => exact ⟨k + 1, by omega, by go_num, by rw [← hstep.out], hJ3, hd3⟩
        case measure => simp [intOf]; omega
      · gi_wp2
        refine bodyPost_ret (results_none rfl _ _ _) rfl ?_
        exact ⟨⟨_, rfl⟩, .inr ⟨k, hlt, hJx3⟩⟩
    · obtain rfl : k = p := by omega
      gi_wp2
      go_end0
      exact ⟨⟨_, rfl⟩, .inl hJk⟩
end Go.Proofs.YtkdipflmmlnbpaaDoor.Tithe
