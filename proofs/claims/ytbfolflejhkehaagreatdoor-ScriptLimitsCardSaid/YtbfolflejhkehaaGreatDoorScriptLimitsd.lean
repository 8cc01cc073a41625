/-
  ScriptLimits: the card's closed facts. Conditions: none.
-/
import Derived.Test.YtbfolflejhkehaaGreatDoorRows
import Derived.SevenTiedAt
import Derived.LaidMore
import Derived.MakeChecks
import Derived.Test.YtbfolflejhkehaaGreatDoorWfA
import Derived.Test.YtbfolflejhkehaaGreatDoorWfB
import Derived.Test.YtbfolflejhkehaaGreatDoorGoA
namespace Go.Proofs.YtbfolflejhkehaaGreatDoor.scriptLimits
open Go
set_option linter.unusedVariables false

theorem named1 : ∀ x ∈ Rows.scriptLimitsRow.laid, x.1 ∈ Rows.scriptLimitsRow.named := fun x hx => by
  simp only [Rows.scriptLimitsRow, List.mem_cons, List.not_mem_nil, or_false] at hx
  rcases hx with rfl | rfl | rfl | rfl | rfl | rfl | rfl | rfl | rfl | rfl | rfl | rfl | rfl <;> (show _ ∈ Rows.scriptLimitsRow.named; unfold Rows.scriptLimitsRow; repeat (first | exact List.Mem.head _ | apply List.Mem.tail))
theorem wfN : Rows.scriptLimitsRow.wf (OpenSpec.ofChange Rows.scriptLimitsSpec) = true := Go.Sc.wf1_of rfl named1 Go.Sc.names_once (by kernel_rfl) rfl rfl rfl
theorem wfT : Rows.scriptLimitsRow.wfByText (OpenSpec.ofChange Rows.scriptLimitsSpec) = true := Go.Sc.wf_of rfl rfl named1 Go.Sc.names_once wfN
theorem goesT : false = Rows.scriptLimitsRow.goesBy Tryz.prog := (Go.Sc.goes_none noneGoes _).symm
theorem looksT : true = Tryz.prog.looks [] := by kernel_rfl
theorem nameT : Tryz.prog.funcNamed Rows.scriptLimitsRow.func = some 3 := by kernel_rfl
end Go.Proofs.YtbfolflejhkehaaGreatDoor.scriptLimits
