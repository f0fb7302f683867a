/- The tree's mend, walked: its five ways. -/
import Derived.Test.YtiddfimaenjdcaaGreatDoorBtMx
import Derived.Test.YtiddfimaenjdcaaGreatDoorBtN
import Derived.Test.YtiddfimaenjdcaaGreatDoorBtPx
set_option linter.unusedVariables false
set_option linter.unusedSimpArgs false
namespace Go.Proofs.YtiddfimaenjdcaaGreatDoor
open Go.RowKit Go.Shelf Go.Proofs.YtiddfimaenjdcaaGreatDoorW.PrintWords Go.Proofs.YtiddfimaenjdcaaGreatDoorW.PrintLast

/-- how much the i-th kid has -/
def szk (A : List Bt.Nd) (ks : List Nat) (i : Int) : Nat := if 0 ≤ i ∧ i < ks.length then (Bt.nd A (ks.getD i.toNat 0)).size else 0

/-- mend's own variables -/
structure MendW (W : World) (F : Nat → Prop) (B N cap : Nat) (fv : Value) (L : List NV) (fr : List Nat) (root : Nat) (bytes : Int) (g c bk bt : Nat) (ks : List Nat) : Prop where
  tw : Tw W F B N cap fv L fr root bytes
  row : Rw W 3 (.slice (some ⟨g, 0, none⟩) ks.length c) (cK ks)
  kids : W.cell? ⟨bk, 0, none⟩ = some (.slice (some ⟨g, 0, none⟩) ks.length c)
  tree : W.cell? ⟨bt, 0, none⟩ = some (.pointer (some ⟨B, 0, none⟩))
theorem MendW.drewN {W : World} {F : Nat → Prop} {B N cap : Nat} {fv : Value} {L : List NV} {fr : List Nat} {root : Nat} {bytes : Int} {g c bk bt : Nat} {ks : List Nat} (h : MendW W F B N cap fv L fr root bytes g c bk bt ks) (q : Nat) : MendW (W.drewN q) F B N cap fv L fr root bytes g c bk bt ks :=
  ⟨h.tw.drewN q, h.row.drewN q, h.kids, h.tree⟩

end Go.Proofs.YtiddfimaenjdcaaGreatDoor
