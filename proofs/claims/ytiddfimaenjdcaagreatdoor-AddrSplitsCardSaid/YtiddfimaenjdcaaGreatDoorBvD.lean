/- buf's Splice, walked (what it does when it does it). -/
import Derived.Test.YtiddfimaenjdcaaGreatDoorBvC
set_option linter.unusedVariables false
set_option linter.unusedSimpArgs false
namespace Go.Proofs.YtiddfimaenjdcaaGreatDoor
open Go.RowKit Go.Shelf Go.Maps Go.Proofs.YtiddfimaenjdcaaGreatDoorW.PrintWords Go.Proofs.YtiddfimaenjdcaaGreatDoorW.PrintLast

def putS (s : Bs) (n : Int) : Bs := { s with cur := min (max n 1) s.ls.length }
def marS (s : Bs) (line m lines : Int) : Bs := { s with mar := splF s.mar line m lines }
def sputs (size k : Nat) (xs : List ByteArray) : List ByteArray := if k = size ∧ xs = [] then [⟨#[]⟩] else xs
def spliceS (s : Bs) (i k : Nat) (xs : List ByteArray) : Bs := putS (marS (changeS s i k xs) (i + 1) k xs.length) s.cur

theorem below_drewN {N : Nat} (w : World) (q : Nat) : Below N w (w.drewN q) := ⟨rfl, rfl, rfl, Nat.le_refl _, fun _ _ => rfl⟩
section
variable {N0 : Nat} {w0 : Base} {w w' : World} {col : Nat → Nat} {B T p1 U : Nat} {s : Bs} {vl vm vo : Value} {L : List DV}
end
end Go.Proofs.YtiddfimaenjdcaaGreatDoor
