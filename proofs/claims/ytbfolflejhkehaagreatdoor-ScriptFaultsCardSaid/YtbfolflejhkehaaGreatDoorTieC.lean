/-
  A part of the program's tie. Conditions: none.
-/
import Derived.Test.YtbfolflejhkehaaGreatDoorRows
import Derived.LaidByTextLater
import Derived.Test.YtbfolflejhkehaaGreatDoorTieL
import Derived.SevenTiedAt
namespace Go.Proofs.YtbfolflejhkehaaGreatDoor
open Go
theorem tie_hd : ∀ os tape, varsDone Tryz.prog 400 (varsId Tryz.prog) os tape = true := fun _ _ => by kernel_rfl
end Go.Proofs.YtbfolflejhkehaaGreatDoor
