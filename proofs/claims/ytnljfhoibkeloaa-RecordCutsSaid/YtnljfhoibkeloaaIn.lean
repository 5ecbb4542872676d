/- Steps of a region that draws its order, inside a fence and in the round of a range over a function: an append by its run equation; the call of a Go function by its contract. No program in sight. -/
import Derived.RegionIn
import Derived.RangeFuncCalls
import Derived.Maps.AppendAt
import Derived.Laws.AppendOwn
namespace Go.Proofs.Ytnljfhoibkeloaa
set_option linter.unusedVariables false
set_option linter.unusedSimpArgs false
namespace In
theorem append {F : Fence} {n : Nat} {P : Program} {ops : Array Oper} {o : Oper} {a : Act} {w : World} {K : Act → World → Prop} {Q : Exit → Act → World → Prop} {E : Prop}
    (hg : o.guard = none) (s x : Operand) (t : TypeId) (hop : o.op = Op.call { callee := Callee.builtin Builtin.append, args := #[s, x], argTypes := #[t, t] })
    {v vx v' : Value} {w' : World} (hs : a.eval s = v) (hx : a.eval x = vx) (hr : (Builtin.append_ #[t, t] o.type #[v, vx]).run P w = .ok v' w') (hK : K (a.put o.dst v') w') :
    if Region.wanted o (yielded ops a.tmps) = true then Oper.wpIn F n P o a w K Q else E := by
  rw [if_pos (by simp [Region.wanted, hg])]
  refine ⟨?_, ?_⟩
  · intro f hf
    simp [Oper.about, hop, resolve, Target.leads, go_sem] at hf
  · rw [Oper.semAt_eq _ _ _ (by intro c; rw [hop]; exact fun h => by cases h)]
    unfold execOp
    simp only [hop, resolve, invoke, builtin, Sem.run_bind, Sem.run_pure, Result.andThen_ok, List.map_toArray, List.map_cons, List.map_nil, hs, hx, hr]
    exact hK
end In
end Go.Proofs.Ytnljfhoibkeloaa
