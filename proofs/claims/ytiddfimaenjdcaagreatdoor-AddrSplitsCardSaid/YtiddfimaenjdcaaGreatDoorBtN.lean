/- The tree's merge, walked. -/
import Derived.Test.YtiddfimaenjdcaaGreatDoorBtH
import Derived.Deep.RegionLaw
import Derived.Deep.RegionHeld3
set_option linter.unusedVariables false
set_option linter.unusedSimpArgs false
namespace Go.Proofs.YtiddfimaenjdcaaGreatDoor
open Go.RowKit Go.Shelf Go.Proofs.YtiddfimaenjdcaaGreatDoorW.PrintWords Go.Proofs.YtiddfimaenjdcaaGreatDoorW.PrintLast

theorem Rw.src {P : Program} {w : World} {e t e' : TypeId} {v : Value} {cs : List Value} (h : Rw w e v cs) (ht : P.underlying t = some (.slice e')) : Src P 1 t v cs.length cs w := by
  rcases h.2 with ⟨rfl, rfl⟩ | ⟨g, cap, rest, rfl, _⟩
  · exact Src.ofNil _ ht 0
  · exact Src.ofSlice _ ht ⟨g, 0, none⟩ cs.length cap cs (by simp) (fun j u hu => by rw [Addr.add_lit, Nat.zero_add]; exact h.cell hu) h.1

end Go.Proofs.YtiddfimaenjdcaaGreatDoor
