/-
  ScriptFaults: the row holds. Conditions: none.
-/
import Derived.Test.YtbfolflejhkehaaGreatDoorRows
import Derived.SevenTiedAt
import Derived.LaidMore
import Derived.MakeChecks
import Derived.Test.YtbfolflejhkehaaGreatDoorScriptFaultsa
import Derived.Test.YtbfolflejhkehaaGreatDoorScriptFaultsb
namespace Go.Proofs.YtbfolflejhkehaaGreatDoor.scriptFaults
open Go
set_option linter.unusedVariables false

theorem over : Rows.scriptFaultsRow.holds Tryz.pinned (OpenSpec.ofChange Rows.scriptFaultsSpec) :=
  OpenClaim.holds_of_wide 4 Tryz.f4 rfl rfl rfl rfl rfl rfl rfl ⟨rfl, rfl, rfl, rfl, rfl⟩ rfl rfl rfl rfl rfl (by kernel_rfl) Tryz.func4 facts
    (of_decide_eq_true (by kernel_rfl)) (by unfold Func.isWrapper; first | (rw [if_pos (by decide +kernel)]; kernel_rfl) | (rw [if_neg (by decide +kernel)]; exact ⟨rfl, rfl⟩))
    (fun os started H enc _ => lifted os started H enc)

end Go.Proofs.YtbfolflejhkehaaGreatDoor.scriptFaults
