/-
  A part of the program's tie. Conditions: none.
-/
import Derived.Test.YtbfolflejhkehaaGreatDoorRows
import Derived.LaidByTextLater
import Derived.Test.YtbfolflejhkehaaGreatDoorTieL
import Derived.SevenTiedAt
namespace Go.Proofs.YtbfolflejhkehaaGreatDoor
open Go
theorem tie_hn : varsNamedLaterB Tryz.prog (varsId Tryz.prog) tieL = true := by kernel_rfl
end Go.Proofs.YtbfolflejhkehaaGreatDoor
