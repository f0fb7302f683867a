import Derived.Test.YtiddfimaenjdcaaGreatDoorBtH
import Derived.Deep.RegionLaw
set_option linter.unusedVariables false
set_option linter.unusedSimpArgs false

/- The tree's move, walked: of a leaf, its last one ahead of its neighbour's. -/
namespace Go.Proofs.YtiddfimaenjdcaaGreatDoor
open Go.RowKit Go.Shelf Go.Proofs.YtiddfimaenjdcaaGreatDoorW.PrintWords Go.Proofs.YtiddfimaenjdcaaGreatDoorW.PrintLast

end Go.Proofs.YtiddfimaenjdcaaGreatDoor

/- The tree's move, walked: of a leaf, its first one behind its neighbour's. -/
namespace Go.Proofs.YtiddfimaenjdcaaGreatDoor
open Go.RowKit Go.Shelf Go.Proofs.YtiddfimaenjdcaaGreatDoorW.PrintWords Go.Proofs.YtiddfimaenjdcaaGreatDoorW.PrintLast

end Go.Proofs.YtiddfimaenjdcaaGreatDoor

/- The tree's move, walked: of a node, its last one ahead of its neighbour's. -/
namespace Go.Proofs.YtiddfimaenjdcaaGreatDoor
open Go.RowKit Go.Shelf Go.Proofs.YtiddfimaenjdcaaGreatDoorW.PrintWords Go.Proofs.YtiddfimaenjdcaaGreatDoorW.PrintLast

end Go.Proofs.YtiddfimaenjdcaaGreatDoor

/- The tree's move, walked: of a node, its first one behind its neighbour's. -/
namespace Go.Proofs.YtiddfimaenjdcaaGreatDoor
open Go.RowKit Go.Shelf Go.Proofs.YtiddfimaenjdcaaGreatDoorW.PrintWords Go.Proofs.YtiddfimaenjdcaaGreatDoorW.PrintLast

end Go.Proofs.YtiddfimaenjdcaaGreatDoor
