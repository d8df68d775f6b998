/- Rows of cells edited by append in place, copy and clear: general, no program in sight. -/
import Derived.Test.YthjjelomlgmllaaOwnMore
import Derived.Laws.CopyOwn
import Derived.Lib.AppendZerosOnto
namespace Go.Proofs.Ythjjelomlgmllaa.Tithe
open Go.RowKit Go.Sort
set_option linter.unusedVariables false
/-- cells laid over a row -/
def patch (L : List Value) (o : Nat) (cs : List Value) : List Value := L.take o ++ cs ++ L.drop (o + cs.length)
theorem patch_len {L : List Value} {o : Nat} {cs : List Value} (h : o + cs.length ≤ L.length) : (patch L o cs).length = L.length := by
  unfold patch; simp; omega
theorem run_copy_k {P : Program} (w : World) (dT sT ty elem : TypeId) (i : TypeInfo) (size : Nat) (hu : P.underlying dT = some (.slice elem)) (hi : P.info? elem = some i) (hsz : i.size = size)
    (g off dLen dCap : Nat) (ad : Addr) (sLen sCap : Nat) (cur : Array Value) (t : TypeId) (hg : w.heap[g]? = some (.cells cur t (0, 0))) (cs : List Value) (hn : cs.length = Nat.min sLen dLen * size)
    (hsrc : ∀ j v, cs[j]? = some v → w.cell? (ad.add j) = some v) (hfit : off + cs.length ≤ cur.size) (h1 : ∀ v ∈ cs, v.oneCell' = true) :
    (Builtin.copy_ #[dT, sT] ty #[.slice (some ⟨g, off, none⟩) dLen dCap, .slice (some ad) sLen sCap]).run P w = .ok (goInt (Nat.min sLen dLen)) (w.setRow g (patch cur.toList off cs).toArray) := by
  subst hsz
  have hf := run_firstCells_some (P := P) w i.size (Nat.min sLen dLen) ad sLen sCap cs hn hsrc
  have hst := run_storeCells_at P g off t cs 0 cur w hg (by simpa using hfit) h1
  simp only [Nat.add_zero] at hst
  simp [Builtin.copy_, run_underlying hu, sizeOf, typeInfo, hi, Builtin.lenOf, hf, hst, patch]
theorem run_clear_k {P : Program} (w : World) (dT ty elem : TypeId) (i : TypeInfo) (z : Value) (hu : P.underlying dT = some (.slice elem)) (hi : P.info? elem = some i) (hz : i.zero = some z)
    (g off n cap : Nat) (hn : 0 < n) (cur : Array Value) (t : TypeId) (hg : w.heap[g]? = some (.cells cur t (0, 0))) (hfit : off + (Builtin.zeroCells z.cells n).toList.length ≤ cur.size) (h1 : ∀ v ∈ (Builtin.zeroCells z.cells n).toList, v.oneCell' = true) :
    (Builtin.clear_ #[dT] ty #[.slice (some ⟨g, off, none⟩) n cap]).run P w = .ok (.tuple #[]) (w.setRow g (patch cur.toList off (Builtin.zeroCells z.cells n).toList).toArray) := by
  obtain ⟨m, rfl⟩ : ∃ m, n = m + 1 := ⟨n - 1, by omega⟩
  have hst := run_storeCells_at P g off t (Builtin.zeroCells z.cells (m + 1)).toList 0 cur w hg (by simpa using hfit) h1
  simp only [Nat.add_zero] at hst
  simp [Builtin.clear_, run_underlying hu, zeroValue, typeInfo, hi, hz, hst, patch]
theorem run_copy_op {P : Program} {a : Act} {w w' : World} {o : Oper} {v vd vs : Value} (d s : Operand) (dT sT : TypeId) (ho : o.op = .call { callee := .builtin .copy, args := #[d, s], argTypes := #[dT, sT] })
    (hd : a.eval d = vd) (hs : a.eval s = vs) (h : (Builtin.copy_ #[dT, sT] o.type #[vd, vs]).run P w = .ok v w') : (execOp a.eval o).run P w = .ok (.value v) w' := by
  unfold execOp
  simp [ho, resolve, invoke, builtin, hd, hs, h, Result.andThen]
theorem run_clear_op {P : Program} {a : Act} {w w' : World} {o : Oper} {v vd : Value} (d : Operand) (dT : TypeId) (ho : o.op = .call { callee := .builtin .clear, args := #[d], argTypes := #[dT] })
    (hd : a.eval d = vd) (h : (Builtin.clear_ #[dT] o.type #[vd]).run P w = .ok v w') : (execOp a.eval o).run P w = .ok (.value v) w' := by
  unfold execOp
  simp [ho, resolve, invoke, builtin, hd, h, Result.andThen]
theorem run_append_op {P : Program} {a : Act} {w w' : World} {o : Oper} {v vd vs : Value} (d s : Operand) (dT sT : TypeId) (ho : o.op = .call { callee := .builtin .append, args := #[d, s], argTypes := #[dT, sT] })
    (hd : a.eval d = vd) (hs : a.eval s = vs) (h : (Builtin.append_ #[dT, sT] o.type #[vd, vs]).run P w = .ok v w') : (execOp a.eval o).run P w = .ok (.value v) w' := by
  unfold execOp
  simp [ho, resolve, invoke, builtin, hd, hs, h, Result.andThen]
theorem wpList_val {P : Program} {ops : Array Oper} {rest : List Oper} {op : Oper} {a : Act} {w : World} {Q : Exit → Act → World → Prop} (hgd : op.guard = none) (v : Value) (w' : World)
    (hrun : (execOp a.eval op).run P w = .ok (.value v) w') (h : wpList P ops Q rest (a.put op.dst v) w') : wpList P ops Q (op :: rest) a w :=
  wpList_plain hgd fun K hK => by
    unfold Oper.wp
    simp only [hrun]
    exact hK _ _ h
theorem setRow_blk (w : World) (g : Nat) {cur : Array Value} {t : TypeId} (cs : Array Value) (h : w.heap[g]? = some (.cells cur t (0, 0))) : (w.setRow g cs).heap[g]? = some (.cells cs t (0, 0)) := setRow_heap w g _ _ t _ h
theorem setRow_grown (w : World) (g : Nat) (cs : Array Value) : w.grownBy (w.setRow g cs) (some g) :=
  ⟨rfl, rfl, rfl, by simp, fun k hk hn => setRow_other w g k cs (fun e => hn (by rw [e]))⟩
theorem flat_take_k {α : Type} {enc : α → List Value} {sz : Nat} (he : ∀ x, (enc x).length = sz) : ∀ (l : List α) (k : Nat), flat enc (l.take k) = (flat enc l).take (k * sz)
  | [], k => by simp [flat]
  | x :: l, 0 => by simp [flat]
  | x :: l, k + 1 => by
    show enc x ++ flat enc (l.take k) = (enc x ++ flat enc l).take ((k + 1) * sz)
    have e : (k + 1) * sz = (enc x).length + k * sz := by rw [he, Nat.add_mul]; omega
    rw [e, List.take_length_add_append, flat_take_k he l k]
theorem flat_drop_k {α : Type} {enc : α → List Value} {sz : Nat} (he : ∀ x, (enc x).length = sz) : ∀ (l : List α) (k : Nat), flat enc (l.drop k) = (flat enc l).drop (k * sz)
  | [], k => by simp [flat]
  | x :: l, 0 => by simp [flat]
  | x :: l, k + 1 => by
    show flat enc (l.drop k) = (enc x ++ flat enc l).drop ((k + 1) * sz)
    have e : (k + 1) * sz = (enc x).length + k * sz := by rw [he, Nat.add_mul]; omega
    rw [e, List.drop_length_add_append, flat_drop_k he l k]
theorem flat_erase {α : Type} {enc : α → List Value} {sz : Nat} (he : ∀ x, (enc x).length = sz) (l : List α) (i : Nat) : flat enc (l.eraseIdx i) = (flat enc l).take (i * sz) ++ (flat enc l).drop ((i + 1) * sz) := by
  rw [List.eraseIdx_eq_take_drop_succ, flat_append, flat_take_k he, flat_drop_k he]
theorem flat_insert {α : Type} {enc : α → List Value} {sz : Nat} (he : ∀ x, (enc x).length = sz) (l : List α) (i : Nat) (x : α) : flat enc (l.take i ++ x :: l.drop i) = (flat enc l).take (i * sz) ++ enc x ++ (flat enc l).drop (i * sz) := by
  rw [flat_append, flat_take_k he]
  show _ ++ (enc x ++ flat enc (l.drop i)) = _
  rw [flat_drop_k he, List.append_assoc]
theorem patch_take {L : List Value} {o : Nat} {cs : List Value} (h : o ≤ L.length) : (patch L o cs).take o = L.take o := by
  unfold patch
  rw [List.append_assoc, List.take_append_of_le_length (by rw [List.length_take]; omega), List.take_take, Nat.min_self]
/-- a row with one element out -/
theorem del_rows {cur F Z : List Value} {n i sz : Nat} (hF : cur.take (n * sz) = F) (hl : F.length = n * sz) (hi : i < n) :
    (patch (patch cur (i * sz) (F.drop ((i + 1) * sz))) ((n - 1) * sz) Z).take ((n - 1) * sz) = F.take (i * sz) ++ F.drop ((i + 1) * sz) := by
  have hn : (n - 1) * sz = i * sz + (n - 1 - i) * sz := by rw [← Nat.add_mul]; congr 1; omega
  have hd : (F.drop ((i + 1) * sz)).length = (n - 1 - i) * sz := by
    rw [List.length_drop, hl, ← Nat.sub_mul]; congr 1; omega
  have hcl : n * sz ≤ cur.length := by
    have := congrArg List.length hF
    rw [List.length_take, hl] at this; omega
  have hle : i * sz ≤ n * sz := Nat.mul_le_mul_right _ (by omega)
  have hle2 : (n - 1) * sz ≤ n * sz := Nat.mul_le_mul_right _ (by omega)
  have e1 : F.take (i * sz) = cur.take (i * sz) := by rw [← hF, List.take_take, Nat.min_eq_left hle]
  rw [patch_take (by rw [patch_len (by rw [hd, ← hn]; omega)]; omega), e1]
  unfold patch
  rw [List.take_append_of_le_length (by rw [List.length_append, List.length_take, hd, hn]; omega), List.take_of_length_le (by rw [List.length_append, List.length_take, hd, hn]; omega)]
theorem patch_take2 {L : List Value} {o : Nat} {cs : List Value} (h : o ≤ L.length) : (patch L o cs).take (o + cs.length) = L.take o ++ cs := by
  unfold patch
  rw [List.take_append_of_le_length (by rw [List.length_append, List.length_take]; omega), List.take_of_length_le (by rw [List.length_append, List.length_take]; omega)]
theorem patch_drop {L : List Value} {o : Nat} {cs : List Value} (h : o ≤ L.length) : (patch L o cs).drop o = cs ++ L.drop (o + cs.length) := by
  unfold patch
  rw [List.append_assoc, List.drop_append_of_le_length (by rw [List.length_take]; omega), List.drop_of_length_le (by rw [List.length_take]; omega)]
  rfl
/-- a row with one element put in: there is room -/
theorem ins_room {L F x : List Value} {n i sz : Nat} (hF : L.take (n * sz) = F) (hl : F.length = n * sz) (hi : i < n) (hx : x.length = sz) (hL : (n + 1) * sz ≤ L.length) :
    (patch (patch L ((i + 1) * sz) (F.drop (i * sz))) (i * sz) x).take ((n + 1) * sz) = F.take (i * sz) ++ x ++ F.drop (i * sz) := by
  have hle : i * sz ≤ n * sz := Nat.mul_le_mul_right _ (by omega)
  have hle1 : (i + 1) * sz ≤ n * sz := Nat.mul_le_mul_right _ (by omega)
  have hn1 : (n + 1) * sz = n * sz + sz := by rw [Nat.add_mul]; omega
  have hi1 : (i + 1) * sz = i * sz + sz := by rw [Nat.add_mul]; omega
  have hd : (F.drop (i * sz)).length = n * sz - i * sz := by rw [List.length_drop, hl]
  have hp : (patch L ((i + 1) * sz) (F.drop (i * sz))).length = L.length := patch_len (by rw [hd]; omega)
  have e1 : F.take (i * sz) = L.take (i * sz) := by rw [← hF, List.take_take, Nat.min_eq_left hle]
  have e2 : (patch L ((i + 1) * sz) (F.drop (i * sz))).take (i * sz) = L.take (i * sz) := by
    have := congrArg (List.take (i * sz)) (patch_take (L := L) (o := (i + 1) * sz) (cs := F.drop (i * sz)) (by omega))
    rw [List.take_take, List.take_take, Nat.min_eq_left (by omega)] at this
    exact this
  have e3 : (patch L ((i + 1) * sz) (F.drop (i * sz))).drop (i * sz + x.length) = F.drop (i * sz) ++ L.drop ((i + 1) * sz + (F.drop (i * sz)).length) := by
    rw [hx, ← hi1]; exact patch_drop (by omega)
  show ((patch L ((i + 1) * sz) (F.drop (i * sz))).take (i * sz) ++ x ++ (patch L ((i + 1) * sz) (F.drop (i * sz))).drop (i * sz + x.length)).take ((n + 1) * sz) = _
  rw [e2, e3, e1, ← List.append_assoc, List.take_append_of_le_length (by simp only [List.length_append, List.length_take, hd, hx]; omega), List.take_of_length_le (by simp only [List.length_append, List.length_take, hd, hx]; omega)]
/-- a row with one element put in: in new memory -/
theorem ins_grow {L F x : List Value} {n i sz : Nat} (hF : L.take (i * sz) = F.take (i * sz)) (hl : F.length = n * sz) (hi : i < n) (hx : x.length = sz) (hL : (n + 1) * sz ≤ L.length) :
    (patch (patch L (i * sz) x) ((i + 1) * sz) (F.drop (i * sz))).take ((n + 1) * sz) = F.take (i * sz) ++ x ++ F.drop (i * sz) := by
  have hle : i * sz ≤ n * sz := Nat.mul_le_mul_right _ (by omega)
  have hle1 : (i + 1) * sz ≤ n * sz := Nat.mul_le_mul_right _ (by omega)
  have hn1 : (n + 1) * sz = n * sz + sz := by rw [Nat.add_mul]; omega
  have hi1 : (i + 1) * sz = i * sz + sz := by rw [Nat.add_mul]; omega
  have hd : (F.drop (i * sz)).length = n * sz - i * sz := by rw [List.length_drop, hl]
  have hp : (patch L (i * sz) x).length = L.length := patch_len (by rw [hx]; omega)
  have e1 : (n + 1) * sz = (i + 1) * sz + (F.drop (i * sz)).length := by rw [hd]; omega
  have e2 := patch_take2 (L := L) (o := i * sz) (cs := x) (by omega)
  rw [hx, ← hi1] at e2
  rw [e1, patch_take2 (by omega), e2, hF]
end Go.Proofs.Ythjjelomlgmllaa.Tithe
