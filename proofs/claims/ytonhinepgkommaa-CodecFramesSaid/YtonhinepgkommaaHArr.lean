/- Laws for the walk on whole arrays in memory: a new array, a whole array stored. -/
import Derived.WalkKit
import Derived.Laws.CopyOwn
import Derived.ChangeKeysEq
set_option linter.unusedVariables false
set_option linter.unusedSimpArgs false
namespace Go.Proofs.YtonhinepgkommaaH
open Go Go.RowKit

section
variable {P : Program} {w : World} {ops : Array Oper} {rest : List Oper} {o : Oper} {a : Act} {Q : Exit → Act → World → Prop}

theorem wpList_alloc_cells (hgd : o.guard = none) (t : TypeId) (ho : o.op = .alloc t) (cs : Array Value) (hz : (P.info? t).map (·.zero) = some (some (.agg cs)))
    (h : wpList P ops Q rest (a.put o.dst (.pointer (some ⟨w.heap.size, 0, none⟩))) (w.alloc (.cells cs t))) : wpList P ops Q (o :: rest) a w := by
  refine wpList_plain hgd fun K hK => ?_
  obtain ⟨i, hi, hi2⟩ := Option.map_eq_some_iff.1 hz
  unfold Oper.wp execOp
  simp only [ho, Instr.alloc, zeroValue, typeInfo, Sem.run_bind]
  simp [hi, hi2, newVar, newRow, Result.andThen, Value.cells, Oper.upon_value]
  exact hK _ _ h

theorem run_storeVar_row (ty : TypeId) (g : Nat) (t : TypeId) (cur cs : Array Value) (hg : w.heap[g]? = some (.cells cur t (0, 0))) (hs : cs.size = cur.size) (h1 : ∀ v ∈ cs, v.oneCell' = true)
    (hi : (P.info? ty).map (·.size) = some cs.size) : (storeVar ty ⟨g, 0, none⟩ (.agg cs)).run P w = .ok () (w.setRow g cs) := by
  obtain ⟨i, hi, hi2⟩ := Option.map_eq_some_iff.1 hi
  have := run_storeCells_at P g 0 t cs.toList 0 cur w hg (by simp; omega) (fun v hv => h1 v (by simpa using hv))
  have e : (cur.toList.take (0 + 0) ++ cs.toList ++ cur.toList.drop (0 + 0 + cs.toList.length)).toArray = cs := by
    have : cur.toList.drop (0 + 0 + cs.toList.length) = [] := by apply List.drop_eq_nil_of_le; simp; omega
    rw [this]; simp
  rw [e] at this
  simp [storeVar, sizeOf, typeInfo, hi, hi2, Value.cells, Sem.run_bind, Result.andThen, this]

theorem wpList_store_row (hgd : o.guard = none) (ty : TypeId) (x y : Operand) (ho : o.op = .store ty x y) (g : Nat) (hx : a.eval x = .pointer (some ⟨g, 0, none⟩)) (cs : Array Value) (hy : a.eval y = .agg cs)
    (t : TypeId) (cur : Array Value) (hg : w.heap[g]? = some (.cells cur t (0, 0))) (hs : cs.size = cur.size) (h1 : ∀ v ∈ cs, v.oneCell' = true)
    (hi : (P.info? ty).map (·.size) = some cs.size) (h : wpList P ops Q rest (a.put o.dst undef) (w.setRow g cs)) : wpList P ops Q (o :: rest) a w := by
  refine wpList_plain hgd fun K hK => ?_
  unfold Oper.wp execOp
  simp only [ho, hx, hy, Instr.storeAt, Instr.sureAddr, Sem.run_bind, Sem.run_pure, Result.andThen_ok, run_storeVar_row ty g t cur cs hg hs h1 hi]
  exact hK _ _ h

theorem run_part_int {e : TypeId} {k : IntKind} (he : P.underlying e = some (.int k)) {xs : Array Value} {off : Nat} {v : Value} (hx : xs[off]? = some v) : (part e xs off).run P w = .ok v w := by
  simp [part, isAgg, run_underlying he, Sem.run_bind, Result.andThen, hx]

theorem run_equal_arr4 {t e : TypeId} {k : IntKind} {i : TypeInfo} (hu : P.underlying t = some (.array 4 e)) (hi : P.info? e = some i) (he : P.underlying e = some (.int k)) (h1 : P.cellsOf e = 1)
    (a0 a1 a2 a3 b0 b1 b2 b3 : Int) :
    (Op.equalIn 10000 t (.agg #[.int k a0, .int k a1, .int k a2, .int k a3]) (.agg #[.int k b0, .int k b1, .int k b2, .int k b3])).run P w = .ok (a0 == b0 && (a1 == b1 && (a2 == b2 && a3 == b3))) w := by
  rw [run_equalIn_array w 9999 _ _ hu hi, h1]
  simp only [List.range, List.range.loop, Op.eqItems, Sem.run_bind, Nat.mul_one]
  rw [run_part_int he (v := .int k a0) rfl]
  simp only [Result.andThen_ok]
  rw [run_part_int he (v := .int k b0) rfl]
  simp only [Result.andThen_ok]
  rw [run_equalIn_int w 9998 e k k a0 b0 he]
  simp only [Result.andThen_ok]
  cases h0 : (a0 == b0)
  · simp
  simp only [Bool.not_true, Bool.false_eq_true, if_false, Sem.run_bind]
  rw [run_part_int he (v := .int k a1) rfl]
  simp only [Result.andThen_ok]
  rw [run_part_int he (v := .int k b1) rfl]
  simp only [Result.andThen_ok]
  rw [run_equalIn_int w 9998 e k k a1 b1 he]
  simp only [Result.andThen_ok]
  cases h1 : (a1 == b1)
  · simp
  simp only [Bool.not_true, Bool.false_eq_true, if_false, Sem.run_bind]
  rw [run_part_int he (v := .int k a2) rfl]
  simp only [Result.andThen_ok]
  rw [run_part_int he (v := .int k b2) rfl]
  simp only [Result.andThen_ok]
  rw [run_equalIn_int w 9998 e k k a2 b2 he]
  simp only [Result.andThen_ok]
  cases h2 : (a2 == b2)
  · simp
  simp only [Bool.not_true, Bool.false_eq_true, if_false, Sem.run_bind]
  rw [run_part_int he (v := .int k a3) rfl]
  simp only [Result.andThen_ok]
  rw [run_part_int he (v := .int k b3) rfl]
  simp only [Result.andThen_ok]
  rw [run_equalIn_int w 9998 e k k a3 b3 he]
  simp only [Result.andThen_ok]
  cases h3 : (a3 == b3) <;> simp [Op.eqItems]
end
end Go.Proofs.YtonhinepgkommaaH
