/-
  DERIVED. GIVEN WITH THE SEED: THE CARDS: each row of YtoejfgmfdjoonaaGreatDoorRows.lean that lists a variable, with what it lists TIED to the program's text (the seventh form; the later family's looks); each row that meets fmt, with fmt's text TOLD by the authors' own Lean function (tested against real Go, not proved from fmt's source: count such statements apart). THE CARD IS WHAT COUNTS. Prove the row's statement (the work); the ties are given (YtoejfgmfdjoonaaGreatDoorTie.lean); close each card by the builder's one call (the guide's Derived/Test/ToyasCard.lean, 'card_holds'). Laid BY PROGRAM, IN A SANDBOX (cutbox-door.mjs). By AI agents, Wed Nov 11 2026. No macro, syntax, notation, axiom, sorry.
-/
import Derived.Test.YtoejfgmfdjoonaaGreatDoorRows
import GoSem.ClaimSeven
namespace Go.Proofs.YtoejfgmfdjoonaaGreatDoor
namespace Rows

/-- THE TIED CARD OF 'emendatorlaw16.EditCounts'. -/
def editCountsCard : Claim7 := { stood := { row := editCountsRow, standIns := [], harness := (true, "af1d8e536163a3652a0b2402c493072f45831bb7a1f7d5a31c193fbd530f7070"), looks := true }, kinds := [], alts := [], laidByText := true, laidKinds := [.data, .data, .data, .data, .pinned], laidTests := true, laidLooks := .later }
def EditCountsCardSaid : Prop := Claim7.holds Tryz.pinned (.plain (OpenSpec.ofChange editCountsSpec)) editCountsCard

/-- THE TIED CARD OF 'emendatorlaw16.EditMoves'. -/
def editMovesCard : Claim7 := { stood := { row := editMovesRow, standIns := [], harness := (true, "af1d8e536163a3652a0b2402c493072f45831bb7a1f7d5a31c193fbd530f7070"), looks := true }, kinds := [], alts := [], laidByText := true, laidKinds := [.data, .data, .data, .data, .pinned], laidTests := true, laidLooks := .later }
def EditMovesCardSaid : Prop := Claim7.holds Tryz.pinned (.plain (OpenSpec.ofChange editMovesSpec)) editMovesCard

/-- THE TIED CARD OF 'emendatorlaw16.EditJoinsAll'. -/
def editJoinsAllCard : Claim7 := { stood := { row := editJoinsAllRow, standIns := [], harness := (true, "af1d8e536163a3652a0b2402c493072f45831bb7a1f7d5a31c193fbd530f7070"), looks := true }, kinds := [], alts := [], laidByText := true, laidKinds := [.data, .data, .data, .data, .pinned], laidTests := true, laidLooks := .later }
def EditJoinsAllCardSaid : Prop := Claim7.holds Tryz.pinned (.plain (OpenSpec.ofChange editJoinsAllSpec)) editJoinsAllCard

/-- THE TIED CARD OF 'emendatorlaw16.EditYanks'. -/
def editYanksCard : Claim7 := { stood := { row := editYanksRow, standIns := [], harness := (true, "af1d8e536163a3652a0b2402c493072f45831bb7a1f7d5a31c193fbd530f7070"), looks := true }, kinds := [], alts := [], laidByText := true, laidKinds := [.data, .data, .data, .data, .pinned], laidTests := true, laidLooks := .later }
def EditYanksCardSaid : Prop := Claim7.holds Tryz.pinned (.plain (OpenSpec.ofChange editYanksSpec)) editYanksCard

/-- THE SECOND FORM's CARD OF 'emendatorlaw16.EditCounts'. -/
def editCountsUptoCard : Claim7 := { stood := { row := editCountsUptoRow, standIns := [], harness := (true, "af1d8e536163a3652a0b2402c493072f45831bb7a1f7d5a31c193fbd530f7070"), looks := true }, kinds := [], alts := [], laidByText := true, laidKinds := [.data, .data, .data, .data, .pinned], laidTests := true, laidLooks := .later }
def EditCountsUptoCardSaid : Prop := Claim7.holds Tryz.pinned (.plain (OpenSpec.upto editCountsSpec)) editCountsUptoCard

/-- THE SECOND FORM's CARD OF 'emendatorlaw16.EditMoves'. -/
def editMovesUptoCard : Claim7 := { stood := { row := editMovesUptoRow, standIns := [], harness := (true, "af1d8e536163a3652a0b2402c493072f45831bb7a1f7d5a31c193fbd530f7070"), looks := true }, kinds := [], alts := [], laidByText := true, laidKinds := [.data, .data, .data, .data, .pinned], laidTests := true, laidLooks := .later }
def EditMovesUptoCardSaid : Prop := Claim7.holds Tryz.pinned (.plain (OpenSpec.upto editMovesSpec)) editMovesUptoCard

/-- THE SECOND FORM's CARD OF 'emendatorlaw16.EditJoinsAll'. -/
def editJoinsAllUptoCard : Claim7 := { stood := { row := editJoinsAllUptoRow, standIns := [], harness := (true, "af1d8e536163a3652a0b2402c493072f45831bb7a1f7d5a31c193fbd530f7070"), looks := true }, kinds := [], alts := [], laidByText := true, laidKinds := [.data, .data, .data, .data, .pinned], laidTests := true, laidLooks := .later }
def EditJoinsAllUptoCardSaid : Prop := Claim7.holds Tryz.pinned (.plain (OpenSpec.upto editJoinsAllSpec)) editJoinsAllUptoCard

/-- THE SECOND FORM's CARD OF 'emendatorlaw16.EditYanks'. -/
def editYanksUptoCard : Claim7 := { stood := { row := editYanksUptoRow, standIns := [], harness := (true, "af1d8e536163a3652a0b2402c493072f45831bb7a1f7d5a31c193fbd530f7070"), looks := true }, kinds := [], alts := [], laidByText := true, laidKinds := [.data, .data, .data, .data, .pinned], laidTests := true, laidLooks := .later }
def EditYanksUptoCardSaid : Prop := Claim7.holds Tryz.pinned (.plain (OpenSpec.upto editYanksSpec)) editYanksUptoCard
end Rows
end Go.Proofs.YtoejfgmfdjoonaaGreatDoor
