/- Regions that only read and then do things in one order, with whole blocks read and built; over any program. -/
import Derived.Test.YtenmcllnddmdhaaMap
import Derived.StillTailTactics
set_option linter.unusedVariables false
set_option linter.unusedSimpArgs false
namespace Go.Lb
open Go Go.RowKit
variable {P : Program} {ops : Array Oper} {rest : List Oper} {o : Oper} {a : Act} {w : World}

theorem still_run {Q : Act → Prop} (hgd : o.guard = none) {v : Value} (h : (execOp a.eval o).run P w = .ok (.value v) w) (hK : wpStill P ops w Q rest (a.put o.dst v)) : wpStill P ops w Q (o :: rest) a := by
  unfold wpStill
  rw [if_pos (by simp [Region.wanted, hgd])]
  simp only [Oper.still, h, Oper.stillUpon_value]
  exact hK

theorem exec_load {ty : TypeId} {x : Operand} {p u : Value} (ho : o.op = .load ty x) (hx : a.eval x = p) (h : (Instr.loadAt ty p).run P w = .ok u w) : (execOp a.eval o).run P w = .ok (.value u) w := by
  unfold execOp
  simp only [ho, hx, Sem.run_bind, h, Result.andThen_ok, Sem.run_pure]

theorem exec_build {t : TypeId} {parts : Array (Nat × Operand)} {vs : Array (Nat × Value)} {u : Value} (ho : o.op = .build t parts) (hx : parts.map (fun (i, x) => (i, a.eval x)) = vs) (h : (Instr.build t vs).run P w = .ok u w) : (execOp a.eval o).run P w = .ok (.value u) w := by
  unfold execOp
  simp only [ho, Sem.run_bind, h, hx, Result.andThen_ok, Sem.run_pure]

theorem exec_buildSlice {t : TypeId} {n : Nat} {parts : Array (Nat × Operand)} {vs : Array (Nat × Value)} {u : Value} {w' : World} (ho : o.op = .buildSlice t n parts) (hx : parts.map (fun (i, x) => (i, a.eval x)) = vs) (h : (Instr.buildSlice t n vs).run P w = .ok u w') : (execOp a.eval o).run P w = .ok (.value u) w' := by
  unfold execOp
  simp only [ho, Sem.run_bind, h, hx, Result.andThen_ok, Sem.run_pure]

end Go.Lb
