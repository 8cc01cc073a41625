/-
  ScriptFaults: the row's closed facts. Conditions: none.
-/
import Derived.Test.YtbfolflejhkehaaGreatDoorRows
import Derived.SevenTiedAt
import Derived.LaidMore
import Derived.MakeChecks
import Derived.Test.YtbfolflejhkehaaGreatDoorScriptFaultsd
import Derived.Test.YtbfolflejhkehaaGreatDoorFcA
import Derived.Test.YtbfolflejhkehaaGreatDoorScriptFaultsba
import Derived.Test.YtbfolflejhkehaaGreatDoorScriptFaultsbb
import Derived.Test.YtbfolflejhkehaaGreatDoorScriptFaultsbc
import Derived.Test.YtbfolflejhkehaaGreatDoorScriptFaultsbd
namespace Go.Proofs.YtbfolflejhkehaaGreatDoor.scriptFaults
open Go
set_option linter.unusedVariables false

theorem facts : joinedFacts Tryz.prog 4 Tryz.f4 Rows.scriptFaultsSpec Rows.scriptFaultsRow = true := by
  unfold joinedFacts
  rw [wfN, fLo, fMr, fIn, fUn, fRe, fVa]
  kernel_rfl
end Go.Proofs.YtbfolflejhkehaaGreatDoor.scriptFaults
