/-
  ScriptFaults: a closed fact of the row. Conditions: none.
-/
import Derived.Test.YtbfolflejhkehaaGreatDoorRows
import Derived.SevenTiedAt
import Derived.LaidMore
import Derived.MakeChecks
namespace Go.Proofs.YtbfolflejhkehaaGreatDoor.scriptFaults
open Go
set_option linter.unusedVariables false

theorem fIn : Tryz.prog.inPlace 4 = Rows.scriptFaultsRow.inPlace := by kernel_rfl
end Go.Proofs.YtbfolflejhkehaaGreatDoor.scriptFaults
