/- A call of a Go function at a step of a region that draws its order, by its contract. Conditions: none; a plain lemma. -/
import Derived.Test.YtbjknkgefpeohaaDoorMem
namespace Go.Proofs.YtbjknkgefpeohaaDoor
open Go.RowKit

theorem step_call {P : Program} {ops : Array Oper} {o : Oper} {a : Act} {K : Act → World → Prop} {Q : Exit → Act → World → Prop} {E : Prop} (w : World) (hgd : o.guard = none) (f : FuncId) (xs : Array Operand) (ts : Array TypeId)
    (ho : o.op = .call { callee := .value (.func f), args := xs, argTypes := ts }) (args : Array Value) (hx : xs.map a.eval = args) (hcf : ∀ (args : Array Value) (W : World), (callFunc f args).run P W = .ok (.enter f args) W) (R : Ending → World → Prop) (hc : Calls P f args w R)
    (h : ∀ e w', R e w' → ∃ v, e = .returned v ∧ K (a.put o.dst v) w') : if Region.wanted o (yielded ops a.tmps) = true then Oper.wp P o a w K Q else E := by
  rw [if_pos (by simp [Region.wanted, hgd])]
  unfold Oper.wp execOp
  have he : a.eval (.func f) = .func (.func f) #[] #[] := rfl
  simp only [ho, resolve, he, Deferred.ofValue, invoke, Sem.run_bind, Sem.run_pure, Result.andThen_ok, hx, Array.append_empty]
  simp only [hcf, Array.empty_append]
  rw [Oper.upon_enter]
  refine hc.mono fun e w' hr => ?_
  obtain ⟨v, rfl, hk⟩ := h e w' hr
  exact hk
/-- The same of two arguments. -/
theorem step_call2 {P : Program} {ops : Array Oper} {o : Oper} {a : Act} {K : Act → World → Prop} {Q : Exit → Act → World → Prop} {E : Prop} (w : World) (hgd : o.guard = none) (f : FuncId) (x y : Operand) (ts : Array TypeId)
    (ho : o.op = .call { callee := .value (.func f), args := #[x, y], argTypes := ts }) (u v : Value) (hx : a.eval x = u) (hy : a.eval y = v) (hcf : ∀ (args : Array Value) (W : World), (callFunc f args).run P W = .ok (.enter f args) W) (R : Ending → World → Prop) (hc : Calls P f #[u, v] w R)
    (h : ∀ e w', R e w' → ∃ v, e = .returned v ∧ K (a.put o.dst v) w') : if Region.wanted o (yielded ops a.tmps) = true then Oper.wp P o a w K Q else E :=
  step_call w hgd f #[x, y] ts ho #[u, v] (by simp [hx, hy]) hcf R hc h
/-- Ahead of 'go_cut', where the statement is the last of its sequence: what follows gets a name. -/
theorem wp_last {P : Program} {c : Code} {Q : Exit → Act → World → Prop} {a : Act} {w : World} (h : ∀ K : Act → World → Prop, (∀ a w, Q .normal a w → K a w) → c.wp P (Exit.then K Q) a w) : c.wp P Q a w := by
  refine Code.wp_mono ?_ (h (fun a w => Q .normal a w) (fun _ _ h => h))
  intro e a w he
  cases e with
  | normal => exact he
  | exit id => exact he
  | goto l => exact he
  | ret => exact he
  | panic ch => exact he
  | outgrown => exact he
end Go.Proofs.YtbjknkgefpeohaaDoor
