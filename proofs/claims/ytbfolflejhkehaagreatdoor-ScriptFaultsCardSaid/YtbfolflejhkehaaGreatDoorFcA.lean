/-
  Closed facts of the dump. Conditions: none.
-/
import Derived.Test.YtbfolflejhkehaaGreatDoorRows
import Derived.SevenTiedAt
namespace Go.Proofs.YtbfolflejhkehaaGreatDoor
open Go
theorem fLo : laidOutB Tryz.prog = true := by kernel_rfl
theorem fMr : mapsRowed Tryz.prog = true := by kernel_rfl
end Go.Proofs.YtbfolflejhkehaaGreatDoor
