/- The same laws of whole blocks, as the walk beside other goroutines meets them. -/
import Derived.Test.YtenmcllnddmdhaaWide
import Derived.Conc.LoneSelect
set_option linter.unusedVariables false
set_option linter.unusedSimpArgs false
namespace Go.Lb
open Go Go.RowKit Go.Conc
variable {P : Program}
theorem up_load_blk {o : Oper} {a : Act} {w : World} {K : Act → World → Prop} (ty : TypeId) (x : Operand) (ho : o.op = .load ty x) (b : Nat) (hx : a.eval x = .pointer (some ⟨b, 0, none⟩))
    {t : TypeId} {vs : List Value} (hB : Blk w b t vs) {d : TypeDesc} (hu : P.underlying ty = some d) (hd : d.isRow = true) (hi : (P.info? ty).map (·.size) = some vs.length)
    (h : K (a.put o.dst (.agg vs.toArray)) w) : uponK o a K ((execOp a.eval o).run P w) := by
  unfold execOp
  simp only [ho, hx, Instr.loadAt, Instr.sureAddr, Sem.run_bind, Sem.run_pure, Result.andThen_ok, run_loadVar_mid w b 0 ty vs d hB.range hu hd hi, uponK_value]
  exact h
theorem up_alloc_blk {o : Oper} {a : Act} {w : World} {K : Act → World → Prop} (ty : TypeId) (ho : o.op = .alloc ty) (zs : List Value) (hz : (zeroValue ty).run P w = .ok (.agg zs.toArray) w)
    (h : K (a.put o.dst (.pointer (some ⟨w.heap.size, 0, none⟩))) (w.alloc (.cells zs.toArray ty))) : uponK o a K ((execOp a.eval o).run P w) := by
  unfold execOp
  simp only [ho, Sem.run_bind, Instr.alloc, hz, newVar, newRow, run_newObj_alloc, Sem.run_pure, Result.andThen_ok, Value.cells, uponK_value]
  exact h
theorem up_store_blk {o : Oper} {a : Act} {w : World} {K : Act → World → Prop} (ty : TypeId) (x y : Operand) (ho : o.op = .store ty x y)
    (b : Nat) (us : List Value) (hx : a.eval x = .pointer (some ⟨b, 0, none⟩)) (hy : a.eval y = .agg us.toArray)
    {t : TypeId} {vs : List Value} (hB : Blk w b t vs) (hi : (P.info? ty).map (·.size) = some us.length) (hold : vs.length = us.length) (h1 : ∀ u ∈ us, u.oneCell' = true)
    (h : K (a.put o.dst undef) (w.setRow b us.toArray)) : uponK o a K ((execOp a.eval o).run P w) := by
  unfold execOp
  simp only [ho, hx, hy, Instr.storeAt, Instr.sureAddr, Sem.run_bind, Sem.run_pure, Result.andThen_ok, run_storeVar_row w b t ty vs.toArray us.toArray hB (by simpa using hi) (by simpa using hold) (all_oneCell_toArray h1)]
  exact h
end Go.Lb
