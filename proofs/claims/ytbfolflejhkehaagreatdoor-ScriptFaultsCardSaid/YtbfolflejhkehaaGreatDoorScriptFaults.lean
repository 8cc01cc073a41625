/-
  ScriptFaults: for every input the law returns true, and its arguments read behind the call as they read before. Conditions: none.
-/
import Derived.Test.YtbfolflejhkehaaGreatDoorRows
import Derived.SevenTiedAt
import Derived.LaidMore
import Derived.MakeChecks
import Derived.Test.YtbfolflejhkehaaGreatDoorScriptFaultsc
import Derived.Test.YtbfolflejhkehaaGreatDoorScriptFaultsd
import Derived.Test.YtbfolflejhkehaaGreatDoorCards
import Derived.Test.YtbfolflejhkehaaGreatDoorTieZ
namespace Go.Proofs.YtbfolflejhkehaaGreatDoor.scriptFaults
open Go
set_option linter.unusedVariables false

/-- THE STATEMENT -/
theorem proved : Rows.ScriptFaultsCardSaid :=
  Claim7.holds_tied_plain_at .later [] [.pinned, .data, .sentinel, .sentinel, .data, .data, .data, .data, .pinned, .pinned, .pinned, .pinned, .pinned] true Rows.scriptFaultsCard.stood.harness true over (fun _ h => by cases h) wfT (fun _ h => by cases h) scriptFaults_row_tie rfl ⟨rfl, rfl⟩ (by kernel_rfl) rfl
    (fun f fn hf hfn => by
      obtain rfl : f = 4 := Option.some.inj (nameT.symm.trans hf) |>.symm
      obtain rfl : fn = Tryz.f4 := (Option.some.inj (Tryz.func4.symm.trans hfn)).symm
      exact ⟨looksT, fun j t ht => by
        rw [Tryz.params4] at ht
        have hm := Array.mem_of_getElem? ht
        have hall : ∀ t ∈ #[28, 3, 3], Tryz.prog.wantsStandIn t = false := by
          intro t ht
          simp only [List.mem_toArray, List.mem_cons, List.not_mem_nil, or_false] at ht
          rcases ht with rfl | rfl | rfl <;> kernel_rfl
        exact hall t hm⟩)
    goesT
#print axioms proved
end Go.Proofs.YtbfolflejhkehaaGreatDoor.scriptFaults
