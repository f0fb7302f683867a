/-
  DERIVED. GIVEN WITH THE SEED: THE CARDS: each row of YtdhemdeapphfoaaGreatDoorRows.lean that lists a variable, with what it lists TIED to the program's text (the seventh form; the later family's looks); each row that meets fmt, with fmt's text TOLD by the authors' own Lean function (tested against real Go, not proved from fmt's source: count such statements apart). THE CARD IS WHAT COUNTS. Prove the row's statement (the work); the ties are given (YtdhemdeapphfoaaGreatDoorTie.lean); close each card by the builder's one call (the guide's Derived/Test/ToyasCard.lean, 'card_holds'). Laid BY PROGRAM, IN A SANDBOX (cutbox-door.mjs). By AI agents, Wed Nov 11 2026. No macro, syntax, notation, axiom, sorry.
-/
import Derived.Test.YtdhemdeapphfoaaGreatDoorRows
import GoSem.ClaimSeven
namespace Go.Proofs.YtdhemdeapphfoaaGreatDoor
namespace Rows

/-- THE TIED CARD OF 'emendatorlaw19.NormMoves'. -/
def normMovesCard : Claim7 := { stood := { row := normMovesRow, standIns := [], harness := (true, "f591b389eff1d2dcdbdb58c9d477d6769732beef2192f6435c41759781b78d57"), looks := true }, kinds := [], alts := [], laidByText := true, laidKinds := [.data, .data, .data, .data, .pinned], laidTests := true, laidLooks := .later }
def NormMovesCardSaid : Prop := Claim7.holds Tryz.pinned (.plain (OpenSpec.ofChange normMovesSpec)) normMovesCard

/-- THE TIED CARD OF 'emendatorlaw19.NormWrites'. -/
def normWritesCard : Claim7 := { stood := { row := normWritesRow, standIns := [], harness := (true, "f591b389eff1d2dcdbdb58c9d477d6769732beef2192f6435c41759781b78d57"), looks := true }, kinds := [], alts := [], laidByText := true, laidKinds := [.data, .data, .data, .data, .pinned], laidTests := true, laidLooks := .later }
def NormWritesCardSaid : Prop := Claim7.holds Tryz.pinned (.plain (OpenSpec.ofChange normWritesSpec)) normWritesCard

/-- THE TIED CARD OF 'emendatorlaw19.NormBack'. -/
def normBackCard : Claim7 := { stood := { row := normBackRow, standIns := [], harness := (true, "f591b389eff1d2dcdbdb58c9d477d6769732beef2192f6435c41759781b78d57"), looks := true }, kinds := [], alts := [], laidByText := true, laidKinds := [.data, .data, .data, .data, .pinned], laidTests := true, laidLooks := .later }
def NormBackCardSaid : Prop := Claim7.holds Tryz.pinned (.plain (OpenSpec.ofChange normBackSpec)) normBackCard

/-- THE SECOND FORM's CARD OF 'emendatorlaw19.NormMoves'. -/
def normMovesUptoCard : Claim7 := { stood := { row := normMovesUptoRow, standIns := [], harness := (true, "f591b389eff1d2dcdbdb58c9d477d6769732beef2192f6435c41759781b78d57"), looks := true }, kinds := [], alts := [], laidByText := true, laidKinds := [.data, .data, .data, .data, .pinned], laidTests := true, laidLooks := .later }
def NormMovesUptoCardSaid : Prop := Claim7.holds Tryz.pinned (.plain (OpenSpec.upto normMovesSpec)) normMovesUptoCard

/-- THE SECOND FORM's CARD OF 'emendatorlaw19.NormWrites'. -/
def normWritesUptoCard : Claim7 := { stood := { row := normWritesUptoRow, standIns := [], harness := (true, "f591b389eff1d2dcdbdb58c9d477d6769732beef2192f6435c41759781b78d57"), looks := true }, kinds := [], alts := [], laidByText := true, laidKinds := [.data, .data, .data, .data, .pinned], laidTests := true, laidLooks := .later }
def NormWritesUptoCardSaid : Prop := Claim7.holds Tryz.pinned (.plain (OpenSpec.upto normWritesSpec)) normWritesUptoCard

/-- THE SECOND FORM's CARD OF 'emendatorlaw19.NormBack'. -/
def normBackUptoCard : Claim7 := { stood := { row := normBackUptoRow, standIns := [], harness := (true, "f591b389eff1d2dcdbdb58c9d477d6769732beef2192f6435c41759781b78d57"), looks := true }, kinds := [], alts := [], laidByText := true, laidKinds := [.data, .data, .data, .data, .pinned], laidTests := true, laidLooks := .later }
def NormBackUptoCardSaid : Prop := Claim7.holds Tryz.pinned (.plain (OpenSpec.upto normBackSpec)) normBackUptoCard
end Rows
end Go.Proofs.YtdhemdeapphfoaaGreatDoor
