/- Words for walks by hand: one operation of a plain region whose run is told by an equation. -/
import Derived.Test.YtlandlgjhnnaiaaProg
import Derived.WalkKit
import Derived.Deep.MidRow
import Derived.Deep.Cut
set_option linter.unusedVariables false
set_option linter.unusedSimpArgs false
namespace Go.Proofs.Ytlandlgjhnnaiaa
open Go.RowKit
section
variable {P : Program} {ops : Array Oper} {rest : List Oper} {o : Oper} {a : Act} {w w' : World} {Q : Exit → Act → World → Prop}
theorem exec_load (ty : TypeId) (x : Operand) (p v : Value) (ho : o.op = .load ty x) (h0 : a.eval x = p) (hrun : (Instr.loadAt ty p).run P w = .ok v w) : (execOp a.eval o).run P w = .ok (.value v) w := by
  unfold execOp
  simp only [ho, h0, Sem.run_bind, hrun, Result.andThen_ok, Sem.run_pure]
theorem exec_alloc (ty : TypeId) (v : Value) (ho : o.op = .alloc ty) (hrun : (Instr.alloc ty true (.tuple #[])).run P w = .ok v w') : (execOp a.eval o).run P w = .ok (.value v) w' := by
  unfold execOp
  simp only [ho, Sem.run_bind, hrun, Result.andThen_ok, Sem.run_pure]
theorem exec_store (ty : TypeId) (x y : Operand) (p v : Value) (ho : o.op = .store ty x y) (h0 : a.eval x = p) (h1 : a.eval y = v) (hrun : (Instr.storeAt ty p v).run P w = .ok () w') : (execOp a.eval o).run P w = .ok .skip w' := by
  unfold execOp
  simp only [ho, h0, h1, Sem.run_bind, hrun, Result.andThen_ok, Sem.run_pure]
/-- an operation that yields a value -/
theorem wpl_val (hg : o.guard = none) (v : Value) (w' : World) (hrun : (execOp a.eval o).run P w = .ok (.value v) w') (h : wpList P ops Q rest (a.put o.dst v) w') : wpList P ops Q (o :: rest) a w := by
  refine wpList_plain hg fun K hK => ?_
  unfold Oper.wp
  rw [hrun, Oper.upon_value]
  exact hK _ _ h
theorem wpl_load (hg : o.guard = none) (ty : TypeId) (x : Operand) (p v : Value) (ho : o.op = .load ty x) (h0 : a.eval x = p) (hrun : (Instr.loadAt ty p).run P w = .ok v w)
    (h : wpList P ops Q rest (a.put o.dst v) w) : wpList P ops Q (o :: rest) a w := wpl_val hg v w (exec_load ty x p v ho h0 hrun) h
theorem wpl_alloc (hg : o.guard = none) (ty : TypeId) (v : Value) (w' : World) (ho : o.op = .alloc ty) (hrun : (Instr.alloc ty true (.tuple #[])).run P w = .ok v w')
    (h : wpList P ops Q rest (a.put o.dst v) w') : wpList P ops Q (o :: rest) a w := wpl_val hg v w' (exec_alloc ty v ho hrun) h
theorem wpl_store (hg : o.guard = none) (ty : TypeId) (x y : Operand) (p v : Value) (w' : World) (ho : o.op = .store ty x y) (h0 : a.eval x = p) (h1 : a.eval y = v) (hrun : (Instr.storeAt ty p v).run P w = .ok () w')
    (h : wpList P ops Q rest (a.put o.dst undef) w') : wpList P ops Q (o :: rest) a w := by
  refine wpList_plain hg fun K hK => ?_
  unfold Oper.wp
  rw [exec_store ty x y p v ho h0 h1 hrun]
  exact hK _ _ h
end
end Go.Proofs.Ytlandlgjhnnaiaa
