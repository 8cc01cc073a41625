/-
  ScriptLimits: the row's closed facts. Conditions: none.
-/
import Derived.Test.YtbfolflejhkehaaGreatDoorRows
import Derived.SevenTiedAt
import Derived.LaidMore
import Derived.MakeChecks
import Derived.Test.YtbfolflejhkehaaGreatDoorScriptLimitsd
import Derived.Test.YtbfolflejhkehaaGreatDoorFcA
import Derived.Test.YtbfolflejhkehaaGreatDoorScriptLimitsba
import Derived.Test.YtbfolflejhkehaaGreatDoorScriptLimitsbb
import Derived.Test.YtbfolflejhkehaaGreatDoorScriptLimitsbc
import Derived.Test.YtbfolflejhkehaaGreatDoorScriptLimitsbd
namespace Go.Proofs.YtbfolflejhkehaaGreatDoor.scriptLimits
open Go
set_option linter.unusedVariables false

theorem facts : joinedFacts Tryz.prog 3 Tryz.f3 Rows.scriptLimitsSpec Rows.scriptLimitsRow = true := by
  unfold joinedFacts
  rw [wfN, fLo, fMr, fIn, fUn, fRe, fVa]
  kernel_rfl
end Go.Proofs.YtbfolflejhkehaaGreatDoor.scriptLimits
