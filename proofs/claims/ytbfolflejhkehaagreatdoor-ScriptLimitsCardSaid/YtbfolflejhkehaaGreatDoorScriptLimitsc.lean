/-
  ScriptLimits: the row holds. Conditions: none.
-/
import Derived.Test.YtbfolflejhkehaaGreatDoorRows
import Derived.SevenTiedAt
import Derived.LaidMore
import Derived.MakeChecks
import Derived.Test.YtbfolflejhkehaaGreatDoorScriptLimitsa
import Derived.Test.YtbfolflejhkehaaGreatDoorScriptLimitsb
namespace Go.Proofs.YtbfolflejhkehaaGreatDoor.scriptLimits
open Go
set_option linter.unusedVariables false

theorem over : Rows.scriptLimitsRow.holds Tryz.pinned (OpenSpec.ofChange Rows.scriptLimitsSpec) :=
  OpenClaim.holds_of_wide 3 Tryz.f3 rfl rfl rfl rfl rfl rfl rfl ⟨rfl, rfl, rfl, rfl, rfl⟩ rfl rfl rfl rfl rfl (by kernel_rfl) Tryz.func3 facts
    (of_decide_eq_true (by kernel_rfl)) (by unfold Func.isWrapper; first | (rw [if_pos (by decide +kernel)]; kernel_rfl) | (rw [if_neg (by decide +kernel)]; exact ⟨rfl, rfl⟩))
    (fun os started H enc _ => lifted os started H enc)

end Go.Proofs.YtbfolflejhkehaaGreatDoor.scriptLimits
