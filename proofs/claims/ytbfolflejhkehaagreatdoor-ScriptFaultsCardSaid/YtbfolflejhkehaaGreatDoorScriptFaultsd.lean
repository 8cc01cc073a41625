/-
  ScriptFaults: the card's closed facts. Conditions: none.
-/
import Derived.Test.YtbfolflejhkehaaGreatDoorRows
import Derived.SevenTiedAt
import Derived.LaidMore
import Derived.MakeChecks
import Derived.Test.YtbfolflejhkehaaGreatDoorWfA
import Derived.Test.YtbfolflejhkehaaGreatDoorWfB
import Derived.Test.YtbfolflejhkehaaGreatDoorGoA
namespace Go.Proofs.YtbfolflejhkehaaGreatDoor.scriptFaults
open Go
set_option linter.unusedVariables false

theorem named1 : ∀ x ∈ Rows.scriptFaultsRow.laid, x.1 ∈ Rows.scriptFaultsRow.named := fun x hx => by
  simp only [Rows.scriptFaultsRow, List.mem_cons, List.not_mem_nil, or_false] at hx
  rcases hx with rfl | rfl | rfl | rfl | rfl | rfl | rfl | rfl | rfl | rfl | rfl | rfl | rfl <;> (show _ ∈ Rows.scriptFaultsRow.named; unfold Rows.scriptFaultsRow; repeat (first | exact List.Mem.head _ | apply List.Mem.tail))
theorem wfN : Rows.scriptFaultsRow.wf (OpenSpec.ofChange Rows.scriptFaultsSpec) = true := Go.Sc.wf1_of rfl named1 Go.Sc.names_once (by kernel_rfl) rfl rfl rfl
theorem wfT : Rows.scriptFaultsRow.wfByText (OpenSpec.ofChange Rows.scriptFaultsSpec) = true := Go.Sc.wf_of rfl rfl named1 Go.Sc.names_once wfN
theorem goesT : false = Rows.scriptFaultsRow.goesBy Tryz.prog := (Go.Sc.goes_none noneGoes _).symm
theorem looksT : true = Tryz.prog.looks [] := by kernel_rfl
theorem nameT : Tryz.prog.funcNamed Rows.scriptFaultsRow.func = some 4 := by kernel_rfl
end Go.Proofs.YtbfolflejhkehaaGreatDoor.scriptFaults
