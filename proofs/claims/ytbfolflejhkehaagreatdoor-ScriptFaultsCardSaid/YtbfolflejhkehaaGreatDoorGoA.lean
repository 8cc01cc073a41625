/-
  No body of the dump starts a goroutine. Conditions: none.
-/
import Derived.Test.YtbfolflejhkehaaGreatDoorRows
import GoSem.ClaimGoes
import Derived.KernelRfl
namespace Go.Sc
open Go
theorem goes_none {P : Program} (h : P.funcs.any Func.goes = false) (func : String) : P.goesAt .entering func = false := by
  have h1 : ∀ g : FuncId, (P.funcs[g]?).any Func.goes = false := fun g => by
    cases hg : P.funcs[g]? with
    | none => rfl
    | some fn =>
      have hm : fn ∈ P.funcs := Array.mem_of_getElem? hg
      cases he : Func.goes fn with
      | false => exact he
      | true =>
        have : P.funcs.any Func.goes = true := Array.any_eq_true'.2 ⟨fn, hm, he⟩
        rw [h] at this; cases this
  have h2 : ∀ f : FuncId, P.goes f = false := fun f => by
    have h3 : ((P.closure f).any fun g => (P.funcs[g]?).any Func.goes) = false := by
      cases hc : (P.closure f).any fun g => (P.funcs[g]?).any Func.goes with
      | false => rfl
      | true =>
        simp only [h1] at hc
        simp at hc
    unfold Program.goes
    rw [h3, h, Bool.and_false]; rfl
  unfold Program.goesAt Program.goesFrom
  cases P.funcNamed func with
  | none => rfl
  | some f =>
    show (P.goes f || false) = false
    rw [h2]; rfl
end Go.Sc
namespace Go.Proofs.YtbfolflejhkehaaGreatDoor
theorem noneGoes : Tryz.prog.funcs.any Func.goes = false := by kernel_rfl
end Go.Proofs.YtbfolflejhkehaaGreatDoor
