/- The tree's remove, walked. -/
import Derived.Test.YtiddfimaenjdcaaGreatDoorBtR
import Derived.Test.YtiddfimaenjdcaaGreatDoorBtPx
set_option linter.unusedVariables false
set_option linter.unusedSimpArgs false
namespace Go.Proofs.YtiddfimaenjdcaaGreatDoor
open Go.RowKit Go.Shelf Go.Proofs.YtiddfimaenjdcaaGreatDoorW.PrintWords Go.Proofs.YtiddfimaenjdcaaGreatDoorW.PrintLast

/-- what remove leaves -/
def RemPost (F : Nat → Prop) (B root : Nat) (A : List Bt.Nd) (fr : List Nat) (d : Nat) (p : Bt.Part) (i : Nat) (w : World) (e : Ending) (w' : World) : Prop :=
  ∃ (A' : List Bt.Nd) (fr' : List Nat) (q : Bt.Part), e = .returned (.string (p.ls.getD i ByteArray.empty)) ∧ Ta w' F B A' fr' root ∧ Chg F w w' ∧ Bt.Rem A fr d p (p.ls.eraseIdx i) A' fr' q

end Go.Proofs.YtiddfimaenjdcaaGreatDoor
