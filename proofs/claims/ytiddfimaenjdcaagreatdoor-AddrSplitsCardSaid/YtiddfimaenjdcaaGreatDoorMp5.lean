/- marks: Move. -/
import Derived.Test.YtiddfimaenjdcaaGreatDoorMp
set_option linter.unusedVariables false
set_option linter.unusedSimpArgs false
namespace Go.Proofs.YtiddfimaenjdcaaGreatDoor
open Go.RowKit Go.Maps

/-- where a line goes when the lines from one to another go behind a third -/
def movG (p q b n i : Int) : Int :=
  if p ≤ i ∧ i ≤ q ∧ b < p then wrap64 (wrap64 (wrap64 (i - p) + b) + 1)
  else if p ≤ i ∧ i ≤ q then wrap64 (wrap64 (i - q) + b)
  else if b < i ∧ i < p then wrap64 (i + n)
  else if q < i ∧ i ≤ b then wrap64 (i - n) else i

theorem movG_wf (p q b n i : Int) (hi : (Lit.int .i64 i).wf = true) : (Lit.int .i64 (movG p q b n i)).wf = true := by
  unfold movG
  repeat' split
  all_goals first | exact hi | exact wrap64_wf _

def movOff (p q b : Int) : Prop := p < 1 ∨ q < p ∨ b < 0 ∨ 2147483647 < q ∨ 2147483647 < b ∨ (p - 1 ≤ b ∧ b ≤ q)
instance (p q b : Int) : Decidable (movOff p q b) := by unfold movOff; infer_instance

def MkMovePost (mb n : Nat) (f : Int → Int) (p q b : Int) (w : World) (e : Ending) (w' : World) : Prop :=
  e = .returned (.tuple #[]) ∧ w.grownBy w' (some mb) ∧
    MapOf w' mb n (if movOff p q b then f else fun x => if f x = 0 then 0 else movG p q b (q - p + 1) (f x))

/-- the four boxed numbers -/
abbrev box4 (w : World) (x y z u : Int) : World := (box3 w x y z).alloc (.cells #[.int .i64 u] 3)

def movF (f : Int → Int) (p q c : Int) : Int → Int := fun x => if movOff p q c then f x else if f x = 0 then 0 else movG p q c (q - p + 1) (f x)

end Go.Proofs.YtiddfimaenjdcaaGreatDoor
