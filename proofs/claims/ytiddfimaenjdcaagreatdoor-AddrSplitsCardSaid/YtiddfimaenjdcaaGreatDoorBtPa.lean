/- The tree's Part, walked. -/
import Derived.Test.YtiddfimaenjdcaaGreatDoorBtZ
set_option linter.unusedVariables false
set_option linter.unusedSimpArgs false
namespace Go.Proofs.YtiddfimaenjdcaaGreatDoor
open Go.RowKit Go.Shelf Go.Proofs.YtiddfimaenjdcaaGreatDoorW.PrintWords Go.Proofs.YtiddfimaenjdcaaGreatDoorW.PrintLast

def PartPost (N0 : Nat) (w : World) (xs : List ByteArray) (e : Ending) (w' : World) : Prop := ∃ v, e = .returned (.tuple #[v, .bool true]) ∧ Own N0 w w' v xs

end Go.Proofs.YtiddfimaenjdcaaGreatDoor
