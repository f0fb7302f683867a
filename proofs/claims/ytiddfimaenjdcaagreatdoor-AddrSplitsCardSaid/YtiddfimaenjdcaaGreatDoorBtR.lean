/- The tree's mend: what it leaves. -/
import Derived.Test.YtiddfimaenjdcaaGreatDoorBtQ
import Derived.Test.YtiddfimaenjdcaaGreatDoorBtPx
set_option linter.unusedVariables false
set_option linter.unusedSimpArgs false
namespace Go.Proofs.YtiddfimaenjdcaaGreatDoor
open Go.RowKit Go.Shelf Go.Proofs.YtiddfimaenjdcaaGreatDoorW.PrintWords Go.Proofs.YtiddfimaenjdcaaGreatDoorW.PrintLast

/-- what a move leaves; b: from the end to the front -/
def MovePost (b : Bool) (F : Nat → Prop) (B : Nat) (A : List Bt.Nd) (fr : List Nat) (root d : Nat) (x y : Bt.Part) (w' : World) : Prop :=
  ∃ (A' : List Bt.Nd) (x' y' : Bt.Part), Ta w' F B A' fr root ∧ Bt.Moved A A' d x y x' y' ∧ (if b then x'.ls ++ y'.ls = x.ls ++ y.ls else y'.ls ++ x'.ls = y.ls ++ x.ls)

/-- what mend leaves -/
def MendPost (F : Nat → Prop) (B : Nat) (A : List Bt.Nd) (fr : List Nat) (root d k : Nat) (c : Int) (ps : List Bt.Part) (w' : World) : Prop :=
  ∃ (A' : List Bt.Nd) (fr' : List Nat) (ps' : List Bt.Part), Ta w' F B A' fr' root ∧ Bt.Mended A fr d k c ps A' fr' ps'

theorem szk_in {A : List Bt.Nd} {ks : List Nat} {i : Nat} {j : Nat} (h : ks[i]? = some j) : szk A ks (i : Int) = (Bt.nd A j).size := by
  obtain ⟨hi, rfl⟩ := List.getElem?_eq_some_iff.1 h
  unfold szk
  rw [if_pos (by omega)]
  simp [hi]

end Go.Proofs.YtiddfimaenjdcaaGreatDoor
