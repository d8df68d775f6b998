/- slices.Sort of texts: by the shelf's contract, laid by hand (printed by mksort.py). -/
import Derived.Test.YtbnodgoccmhjkaaFlatMap
import Derived.Shelf.Slices.In.SortNone
import Derived.Sort.OwnSorted
import Derived.Sort.KeysCollected
import Derived.Sort.EveryDepth
import Derived.Lib.OwnBridge
namespace Go.Proofs.Ytbnodgoccmhjkaa.Tithe
open Go.RowKit Go.Shelf Go.Sort
set_option linter.unusedVariables false
set_option maxRecDepth 100000
def ren190 : Go.Shelf.Ren := ⟨fun | 190 => 32 | 125 => 51 | 258 => 50 | 128 => 73 | 129 => 74 | 302 => 64 | 303 => 65 | 304 => 66 | 305 => 67 | 306 => 68 | 307 => 69 | 308 => 70 | 309 => 71 | 310 => 72 | 333 => 81 | 329 => 82 | 330 => 83 | 334 => 84 | 335 => 85 | 336 => 86 | 344 => 87 | n => n, fun | 31 => 44 | 9 => 9 | 3 => 3 | 46 => 104 | 0 => 0 | 51 => 107 | 53 => 128 | 4 => 4 | 183 => 120 | 182 => 119 | 131 => 88 | 5 => 5 | 218 => 131 | 222 => 135 | 228 => 138 | 229 => 139 | n => n, fun n => n⟩
theorem lays190 : Go.Proofs.Lays.n190 Try.prog ren190 where
  mixed := by kernel_rfl
  f125 := Try.func51.trans (congrArg some (by kernel_rfl))
  f128 := Try.func73.trans (congrArg some (by kernel_rfl))
  f129 := Try.func74.trans (congrArg some (by kernel_rfl))
  f190 := Try.func32.trans (congrArg some (by kernel_rfl))
  f258 := Try.func50.trans (congrArg some (by kernel_rfl))
  f302 := Try.func64.trans (congrArg some (by kernel_rfl))
  f303 := Try.func65.trans (congrArg some (by kernel_rfl))
  f304 := Try.func66.trans (congrArg some (by kernel_rfl))
  f305 := Try.func67.trans (congrArg some (by kernel_rfl))
  f306 := Try.func68.trans (congrArg some (by kernel_rfl))
  f307 := Try.func69.trans (congrArg some (by kernel_rfl))
  f308 := Try.func70.trans (congrArg some (by kernel_rfl))
  f309 := Try.func71.trans (congrArg some (by kernel_rfl))
  f310 := Try.func72.trans (congrArg some (by kernel_rfl))
  f329 := Try.func82.trans (congrArg some (by kernel_rfl))
  f330 := Try.func83.trans (congrArg some (by kernel_rfl))
  f333 := Try.func81.trans (congrArg some (by kernel_rfl))
  f334 := Try.func84.trans (congrArg some (by kernel_rfl))
  f335 := Try.func85.trans (congrArg some (by kernel_rfl))
  f336 := Try.func86.trans (congrArg some (by kernel_rfl))
  f344 := Try.func87.trans (congrArg some (by kernel_rfl))
  t0 := Try.underlying0
  a0 := Try.isAgg0
  z0 := Try.sizeOf0
  v0 := Try.zeroValue0
  t3 := Try.underlying3
  a3 := Try.isAgg3
  z3 := Try.sizeOf3
  v3 := Try.zeroValue3
  t4 := Try.underlying4
  a4 := Try.isAgg4
  z4 := Try.sizeOf4
  v4 := Try.zeroValue4
  t5 := Try.underlying5
  a5 := Try.isAgg5
  z5 := Try.sizeOf5
  v5 := Try.zeroValue5
  t9 := Try.underlying9
  a9 := Try.isAgg9
  z9 := Try.sizeOf9
  v9 := Try.zeroValue9
  t31 := Try.underlying44
  a31 := Try.isAgg44
  z31 := Try.sizeOf44
  v31 := Try.zeroValue44
  t46 := Try.underlying104
  a46 := Try.isAgg104
  z46 := Try.sizeOf104
  v46 := Try.zeroValue104
  t51 := Try.underlying107
  a51 := Try.isAgg107
  z51 := Try.sizeOf107
  v51 := Try.zeroValue107
  t53 := Try.underlying128
  a53 := Try.isAgg128
  z53 := Try.sizeOf128
  v53 := Try.zeroValue128
  t131 := Try.underlying88
  a131 := Try.isAgg88
  z131 := Try.sizeOf88
  v131 := Try.zeroValue88
  t182 := Try.underlying119
  a182 := Try.isAgg119
  z182 := Try.sizeOf119
  v182 := Try.zeroValue119
  t183 := Try.underlying120
  a183 := Try.isAgg120
  z183 := Try.sizeOf120
  v183 := Try.zeroValue120
  t218 := Try.underlying131
  a218 := Try.isAgg131
  z218 := Try.sizeOf131
  v218 := Try.zeroValue131
  t222 := Try.underlying135
  a222 := Try.isAgg135
  z222 := Try.sizeOf135
  v222 := Try.zeroValue135
  t228 := Try.underlying138
  a228 := Try.isAgg138
  z228 := Try.sizeOf138
  v228 := Try.zeroValue138
  t229 := Try.underlying139
  a229 := Try.isAgg139
  z229 := Try.sizeOf139
  v229 := Try.zeroValue139
theorem sortS_any (w : World) (base : Nat) (v : Value) (n : Nat) (ss : List (List UInt8)) (h : w.ownsRow base 9 1 v n (ss.map encStr)) (hn : n ≤ 1000000) (hl : ss.length = n) :
    Calls Try.prog 32 #[v] w fun e w' => e = .returned (.tuple #[]) ∧ w'.ownsRow base 9 1 v n ((ss.mergeSort leB).map encStr) ∧ w.grownBy w' v.ownBlock := by
  subst hl
  rcases h.2 with ⟨hnil, he⟩ | ⟨g, cap, cur, rfl, hbase, hb, h1, h2, h3, h4⟩
  · obtain rfl : ss = [] := by
      cases ss with
      | nil => rfl
      | cons a t => cases he
    subst hnil
    refine (calls_of_every_depth (fun D => AnyS.slices_Sort_string_none_alone lays190 D none 0 w)).mono ?_
    rintro e w' ⟨rfl, rfl⟩
    refine ⟨rfl, by rw [List.mergeSort_nil]; exact h, World.grownBy.refl _ _⟩
  · have hH : Holds encStr w g 0 ss.toArray := holds_of_block hb (by simpa using h4)
    have hgl : g < w.heap.size := (Array.getElem?_eq_some_iff.1 hb).1
    refine (calls_of_every_depth (fun D => AnyS.slices_Sort_string_alone lays190 D g 0 cap ss w hH hgl (by omega))).mono ?_
    rintro e w' ⟨rfl, nn, os, rfl⟩
    have hs := ownsRow_sorted (n := nn) (os := os) (ts := ss.mergeSort leB) (by simp) hbase hb h1 h2 h3
    exact ⟨rfl, hs, grownBy_sorted _⟩
end Go.Proofs.Ytbnodgoccmhjkaa.Tithe
