/-
  A part of the program's tie. Conditions: none.
-/
import Derived.Test.YtbfolflejhkehaaGreatDoorRows
import Derived.LaidByTextLater
import Derived.Test.YtbfolflejhkehaaGreatDoorTieL
import Derived.SevenTiedAt
namespace Go.Proofs.YtbfolflejhkehaaGreatDoor
open Go
theorem tie_h2 : ∀ os tape, (DataW.laidRun Tryz.prog (varsWorld Tryz.prog 400 (varsId Tryz.prog) os tape).memory 8 (tieL.map (·.1))).map (fun x => decide x.2.Nodup && laidRowsB Tryz.prog (varsWorld Tryz.prog 400 (varsId Tryz.prog) os tape).memory x.2) = some true := fun _ _ => by kernel_rfl
end Go.Proofs.YtbfolflejhkehaaGreatDoor
