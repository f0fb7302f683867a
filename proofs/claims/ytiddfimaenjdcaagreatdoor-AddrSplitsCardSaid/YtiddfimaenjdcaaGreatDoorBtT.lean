/- The tree's Delete, walked. -/
import Derived.Test.YtiddfimaenjdcaaGreatDoorBtS
import Derived.Test.YtiddfimaenjdcaaGreatDoorBtPx
set_option linter.unusedVariables false
set_option linter.unusedSimpArgs false
namespace Go.Proofs.YtiddfimaenjdcaaGreatDoor
open Go.RowKit Go.Shelf Go.Proofs.YtiddfimaenjdcaaGreatDoorW.PrintWords Go.Proofs.YtiddfimaenjdcaaGreatDoorW.PrintLast

end Go.Proofs.YtiddfimaenjdcaaGreatDoor
