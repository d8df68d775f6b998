/- A reader of bytes: Raw, Byte, Number, Done: walked. -/
import Derived.Test.YtbnodgoccmhjkaaSlice
import Derived.BigQuiet
import Derived.Lib.QuoteBits
import Derived.Laws.BitsAllLaws
namespace Go.Proofs.Ytbnodgoccmhjkaa.Tithe
open Go.RowKit Go.Sort
set_option linter.unusedVariables false
set_option maxRecDepth 100000
def byteC (x : Nat) : List Value := [.int .u8 x]
theorem byteC_len (x : Nat) : (byteC x).length = 1 := rfl
abbrev IsBs (w : World) (v : Value) (l : List Nat) : Prop := IsSl byteC 1 w v l
theorem cell_blkR {w : World} {b : Nat} {cs : Array Value} {t : TypeId} {fr : Nat × Nat} (h : w.heap[b]? = some (.cells cs t fr)) (i : Nat) : w.cell? ⟨b, i, none⟩ = cs[i]? := by
  simp [World.cell?, h]
theorem frozen_blkR {w : World} {b : Nat} {cs : Array Value} {t : TypeId} (h : w.heap[b]? = some (.cells cs t (0, 0))) (i : Nat) : w.frozen? ⟨b, i, none⟩ = false := by
  simp [World.frozen?, h]
theorem grown_setCellR (w : World) (g i : Nat) (v : Value) : w.grownBy (w.setCell ⟨g, i, none⟩ v) (some g) :=
  ⟨rfl, rfl, rfl, by simp [World.setCell], fun k _ hn => Below.heap_setCell w _ _ k (fun e => hn (by rw [e]))⟩
theorem blk_setCellR {V : World} {b i : Nat} {cs : Array Value} {ty : TypeId} {fr : Nat × Nat} {v : Value} (h : V.heap[b]? = some (.cells cs ty fr)) : (V.setCell ⟨b, i, none⟩ v).heap[b]? = some (.cells (cs.setIfInBounds i v) ty fr) := by
  simp [World.setCell, Array.getElem?_modify, h]
theorem grown_belowR {w w' : World} {B : Nat} {g : Nat} (h : w.grownBy w' (some g)) (hB : B ≤ g) (hs : B ≤ w.heap.size) : Below B w w' := ⟨h.os, h.tape, h.output, h.size, fun k hk => h.block k (by omega) (fun e => by cases e; omega)⟩
/-- nothing wrong, or an error's number -/
def chkE (ok : Bool) (e : Int) : Int := if ok then 0 else e
/-- a number read: itself, what is left, whether it was wrong -/
def rdN : Nat → Nat → Nat → List Nat → Nat × List Nat × Bool
  | 0, _, _, bs => (0, bs, true)
  | _ + 1, _, _, [] => (0, [], true)
  | f + 1, i, acc, x :: bs => if x < 128 then (if x = 0 ∧ 0 < i then (0, bs, true) else (acc + (x % 128) * 2 ^ (7 * i), bs, false)) else rdN f (i + 1) (acc + (x % 128) * 2 ^ (7 * i)) bs
def numR (bs : List Nat) : Nat × List Nat × Bool := rdN 9 0 0 bs
theorem pow7 {i : Nat} (hi : i < 9) : 2 ^ (7 * i) ≤ 72057594037927936 := by
  have : 2 ^ (7 * i) ≤ 2 ^ 56 := Nat.pow_le_pow_right (by omega) (by omega)
  simpa using this
theorem num_step (acc x i : Nat) (hi : i < 9) (hacc : acc < 2 ^ (7 * i)) (hx : x < 256) :
    bits BinOp.or IntKind.i64 (acc : Int) (wrap64 (wrap64 (bits BinOp.and IntKind.u8 (x : Int) 127) * 2 ^ (7 * i))) = ((acc + x % 128 * 2 ^ (7 * i) : Nat) : Int) := by
  have hp := pow7 hi
  have a1 : bits BinOp.and IntKind.u8 (x : Int) 127 = ((x % 128 : Nat) : Int) := by
    rw [show (127 : Int) = ((127 : Nat) : Int) from rfl, u8_and_nat x 127 hx (by decide)]
    congr 1
    exact Nat.and_two_pow_sub_one_eq_mod x 7
  have a2 : wrap64 ((x % 128 : Nat) : Int) = ((x % 128 : Nat) : Int) := by unfold wrap64; omega
  have hy : x % 128 * 2 ^ (7 * i) ≤ 127 * 72057594037927936 := Nat.mul_le_mul (by omega) hp
  have a3 : wrap64 (((x % 128 : Nat) : Int) * 2 ^ (7 * i)) = ((x % 128 * 2 ^ (7 * i) : Nat) : Int) := by
    have e : ((x % 128 : Nat) : Int) * 2 ^ (7 * i) = ((x % 128 * 2 ^ (7 * i) : Nat) : Int) := by simp
    rw [e]
    generalize x % 128 * 2 ^ (7 * i) = y at *
    unfold wrap64
    omega
  rw [a1, a2, a3]
  have h4 : acc ||| (x % 128 * 2 ^ (7 * i)) = acc + x % 128 * 2 ^ (7 * i) := by
    rw [Nat.or_comm, Nat.mul_comm, ← Nat.two_pow_add_eq_or_of_lt hacc, Nat.add_comm]
  generalize x % 128 * 2 ^ (7 * i) = y at *
  show IntKind.i64.wrap ((BitVec.ofInt 64 (acc : Int) ||| BitVec.ofInt 64 (y : Int)).toNat : Int) = _
  rw [BitVec.toNat_or, ofInt_u64 acc (by omega), ofInt_u64 y (by omega), h4]
  exact Lib.wrap_i64_small _ (by omega)
theorem num_lt {acc x i : Nat} (hacc : acc < 2 ^ (7 * i)) : acc + x % 128 * 2 ^ (7 * i) < 2 ^ (7 * (i + 1)) := by
  have e : 2 ^ (7 * (i + 1)) = 128 * 2 ^ (7 * i) := by rw [Nat.mul_add, Nat.mul_one, Nat.pow_add]; omega
  rw [e]
  have h1 : x % 128 ≤ 127 := by omega
  have h2 : x % 128 * 2 ^ (7 * i) ≤ 127 * 2 ^ (7 * i) := Nat.mul_le_mul h1 (Nat.le_refl _)
  omega
end Go.Proofs.Ytbnodgoccmhjkaa.Tithe
