import Derived.Test.YtijljdcpajjhhaaOwn
/-! append, whatever its law says, at each place of a walk; a store into a map likewise. -/
namespace Sg
open Go Go.RowKit

section
variable {P : Program} {ops : Array Oper} {Q : Exit → Act → World → Prop} {w : World}

theorem loudly_append_run {o : Oper} {a : Act} {K : Act → World → Prop} (s x : Operand) (t : TypeId) (hop : o.op = Op.call { callee := Callee.builtin Builtin.append, args := #[s, x], argTypes := #[t, t] })
    {v src v' : Value} {w' : World} (hs : a.eval s = v) (hx : a.eval x = src) (hrun : (Builtin.append_ #[t, t] o.type #[v, src]).run P w = .ok v' w') (hK : K (a.put o.dst v') w') : loudly P o a w K := by
  have e1 : (execOp a.eval o).run P w = .ok (.value v') w' := by
    simp [execOp, hop, resolve, invoke, builtin, hs, hx, hrun, Result.andThen]
  unfold loudly
  rw [e1]
  exact hK
theorem wpList_append_run {rest : List Oper} {o : Oper} {a : Act} (hg : o.guard = none) (s x : Operand) (t : TypeId) (hop : o.op = Op.call { callee := Callee.builtin Builtin.append, args := #[s, x], argTypes := #[t, t] })
    {v src v' : Value} {w' : World} (hs : a.eval s = v) (hx : a.eval x = src) (hrun : (Builtin.append_ #[t, t] o.type #[v, src]).run P w = .ok v' w') (hK : wpList P ops Q rest (a.put o.dst v') w') : wpList P ops Q (o :: rest) a w :=
  wpList_plain hg fun _ hK' => loudly_wp (loudly_append_run s x t hop hs hx hrun (hK' _ _ hK))
theorem wpListIn_append_run {F : Fence} {n : Nat} {rest : List Oper} {o : Oper} {a : Act} (hg : o.guard = none) (s x : Operand) (t : TypeId) (hop : o.op = Op.call { callee := Callee.builtin Builtin.append, args := #[s, x], argTypes := #[t, t] })
    {v src v' : Value} {w' : World} (hs : a.eval s = v) (hx : a.eval x = src) (hrun : (Builtin.append_ #[t, t] o.type #[v, src]).run P w = .ok v' w') (hK : wpListIn F n P ops Q rest (a.put o.dst v') w') : wpListIn F n P ops Q (o :: rest) a w := by
  refine wpListIn_plain hg fun K hK' => ?_
  unfold Oper.wpIn
  refine ⟨?_, ?_⟩
  · simp [Oper.about, hop, resolve, Target.leads, Sem.run_pure]
  · rw [Oper.semAt_plain F _ _ (by rw [hop]; intro c hc'; cases hc')]
    simp [execOp, hop, resolve, invoke, builtin, hs, hx, hrun, Result.andThen]
    exact hK' _ _ hK

theorem loudly_mapUpdate_run {o : Oper} {a : Act} {K : Act → World → Prop} (m x y : Operand) (t : TypeId) (hop : o.op = Op.mapUpdate t m x y)
    {mv xv yv : Value} {w' : World} (hm : a.eval m = mv) (hx : a.eval x = xv) (hy : a.eval y = yv) (hrun : (Instr.mapUpdate t mv xv yv).run P w = .ok () w') (hK : K (a.put o.dst undef) w') : loudly P o a w K := by
  have e1 : (execOp a.eval o).run P w = .ok .skip w' := by
    simp [execOp, hop, hm, hx, hy, hrun, Result.andThen]
  unfold loudly
  rw [e1]
  exact hK
theorem wpList_mapUpdate_run {rest : List Oper} {o : Oper} {a : Act} (hg : o.guard = none) (m x y : Operand) (t : TypeId) (hop : o.op = Op.mapUpdate t m x y)
    {mv xv yv : Value} {w' : World} (hm : a.eval m = mv) (hx : a.eval x = xv) (hy : a.eval y = yv) (hrun : (Instr.mapUpdate t mv xv yv).run P w = .ok () w') (hK : wpList P ops Q rest (a.put o.dst undef) w') : wpList P ops Q (o :: rest) a w :=
  wpList_plain hg fun _ hK' => loudly_wp (loudly_mapUpdate_run m x y t hop hm hx hy hrun (hK' _ _ hK))
end
end Sg
