/-
  DERIVED. GIVEN WITH THE SEED: THE CARDS: each row of YtiddfimaenjdcaaGreatDoorRows.lean that lists a variable, with what it lists TIED to the program's text (the seventh form; the later family's looks); each row that meets fmt, with fmt's text TOLD by the authors' own Lean function (tested against real Go, not proved from fmt's source: count such statements apart). THE CARD IS WHAT COUNTS. Prove the row's statement (the work); the ties are given (YtiddfimaenjdcaaGreatDoorTie.lean); close each card by the builder's one call (the guide's Derived/Test/ToyasCard.lean, 'card_holds'). Laid BY PROGRAM, IN A SANDBOX (cutbox-door.mjs). By AI agents, Wed Nov 11 2026. No macro, syntax, notation, axiom, sorry.
-/
import Derived.Test.YtiddfimaenjdcaaGreatDoorRows
import GoSem.ClaimSeven
namespace Go.Proofs.YtiddfimaenjdcaaGreatDoor
namespace Rows

/-- THE TIED CARD OF 'emendatorlaw14.AddrOffs'. -/
def addrOffsCard : Claim7 := { stood := { row := addrOffsRow, standIns := [], harness := (true, "8badc99446cf4696aa6ab6ae5a717204ca9ee02f9b50a1b9c0af1c0afcd787b8"), looks := true }, kinds := [], alts := [], laidByText := true, laidKinds := [.data, .pinned], laidTests := true, laidLooks := .later }
def AddrOffsCardSaid : Prop := Claim7.holds Tryz.pinned (.plain (OpenSpec.ofChange addrOffsSpec)) addrOffsCard

/-- THE TIED CARD OF 'emendatorlaw14.AddrSplits'. -/
def addrSplitsCard : Claim7 := { stood := { row := addrSplitsRow, standIns := [], harness := (true, "8badc99446cf4696aa6ab6ae5a717204ca9ee02f9b50a1b9c0af1c0afcd787b8"), looks := true }, kinds := [], alts := [], laidByText := true, laidKinds := [.data, .pinned], laidTests := true, laidLooks := .later }
def AddrSplitsCardSaid : Prop := Claim7.holds Tryz.pinned (.plain (OpenSpec.ofChange addrSplitsSpec)) addrSplitsCard

/-- THE TIED CARD OF 'emendatorlaw14.AddrMarks'. -/
def addrMarksCard : Claim7 := { stood := { row := addrMarksRow, standIns := [], harness := (true, "8badc99446cf4696aa6ab6ae5a717204ca9ee02f9b50a1b9c0af1c0afcd787b8"), looks := true }, kinds := [], alts := [], laidByText := true, laidKinds := [.data, .pinned], laidTests := true, laidLooks := .later }
def AddrMarksCardSaid : Prop := Claim7.holds Tryz.pinned (.plain (OpenSpec.ofChange addrMarksSpec)) addrMarksCard

/-- THE SECOND FORM's CARD OF 'emendatorlaw14.AddrOffs'. -/
def addrOffsUptoCard : Claim7 := { stood := { row := addrOffsUptoRow, standIns := [], harness := (true, "8badc99446cf4696aa6ab6ae5a717204ca9ee02f9b50a1b9c0af1c0afcd787b8"), looks := true }, kinds := [], alts := [], laidByText := true, laidKinds := [.data, .pinned], laidTests := true, laidLooks := .later }
def AddrOffsUptoCardSaid : Prop := Claim7.holds Tryz.pinned (.plain (OpenSpec.upto addrOffsSpec)) addrOffsUptoCard

/-- THE SECOND FORM's CARD OF 'emendatorlaw14.AddrSplits'. -/
def addrSplitsUptoCard : Claim7 := { stood := { row := addrSplitsUptoRow, standIns := [], harness := (true, "8badc99446cf4696aa6ab6ae5a717204ca9ee02f9b50a1b9c0af1c0afcd787b8"), looks := true }, kinds := [], alts := [], laidByText := true, laidKinds := [.data, .pinned], laidTests := true, laidLooks := .later }
def AddrSplitsUptoCardSaid : Prop := Claim7.holds Tryz.pinned (.plain (OpenSpec.upto addrSplitsSpec)) addrSplitsUptoCard

/-- THE SECOND FORM's CARD OF 'emendatorlaw14.AddrMarks'. -/
def addrMarksUptoCard : Claim7 := { stood := { row := addrMarksUptoRow, standIns := [], harness := (true, "8badc99446cf4696aa6ab6ae5a717204ca9ee02f9b50a1b9c0af1c0afcd787b8"), looks := true }, kinds := [], alts := [], laidByText := true, laidKinds := [.data, .pinned], laidTests := true, laidLooks := .later }
def AddrMarksUptoCardSaid : Prop := Claim7.holds Tryz.pinned (.plain (OpenSpec.upto addrMarksSpec)) addrMarksUptoCard
end Rows
end Go.Proofs.YtiddfimaenjdcaaGreatDoor
