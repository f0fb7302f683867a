/-
  DERIVED. GIVEN WITH THE SEED: THE CARDS: each row of YtdkdoomjihflbaaDoorRows.lean that lists a variable, with what it lists TIED to the program's text (the seventh form; the later family's looks); each row that meets fmt, with fmt's text TOLD by the authors' own Lean function (tested against real Go, not proved from fmt's source: count such statements apart). THE CARD IS WHAT COUNTS. Prove the row's statement (the work); the ties are given (YtdkdoomjihflbaaDoorTie.lean); close each card by the builder's one call (the guide's Derived/Test/ToyasCard.lean, 'card_holds'). Laid BY PROGRAM, IN A SANDBOX (cutbox-door.mjs). By AI agents, Wed Nov 11 2026. No macro, syntax, notation, axiom, sorry.
-/
import Derived.Test.YtdkdoomjihflbaaDoorRows
import GoSem.ClaimSeven
namespace Go.Proofs.YtdkdoomjihflbaaDoor
namespace Rows

/-- THE TIED CARD OF 'emendatorlaw19.NormParses'. -/
def normParsesCard : Claim7 := { stood := { row := normParsesRow, standIns := [], harness := (true, "be55d48885dd0afee4e246eefeae7b1075e90f3526cb16c79a9c8b74c9b654ab"), looks := false }, kinds := [], alts := [], laidByText := true, laidKinds := [.data, .pinned], laidTests := true, laidLooks := .later }
def NormParsesCardSaid : Prop := Claim7.holds Tryd.pinned (.plain (OpenSpec.ofChange normParsesSpec)) normParsesCard

/-- THE TIED CARD OF 'emendatorlaw19.NormKeys'. -/
def normKeysCard : Claim7 := { stood := { row := normKeysRow, standIns := [], harness := (true, "be55d48885dd0afee4e246eefeae7b1075e90f3526cb16c79a9c8b74c9b654ab"), looks := false }, kinds := [], alts := [], laidByText := true, laidKinds := [.data, .pinned], laidTests := true, laidLooks := .later }
def NormKeysCardSaid : Prop := Claim7.holds Tryd.pinned (.plain (OpenSpec.ofChange normKeysSpec)) normKeysCard

/-- THE TIED CARD OF 'emendatorlaw16.EditJoins'. -/
def editJoinsCard : Claim7 := { stood := { row := editJoinsRow, standIns := [], harness := (true, "be55d48885dd0afee4e246eefeae7b1075e90f3526cb16c79a9c8b74c9b654ab"), looks := false }, kinds := [], alts := [], laidByText := true, laidKinds := [.data, .pinned], laidTests := true, laidLooks := .later }
def EditJoinsCardSaid : Prop := Claim7.holds Tryd.pinned (.plain (OpenSpec.ofChange editJoinsSpec)) editJoinsCard

/-- THE TIED CARD OF 'emendatorlaw16.EditShifts'. -/
def editShiftsCard : Claim7 := { stood := { row := editShiftsRow, standIns := [], harness := (true, "be55d48885dd0afee4e246eefeae7b1075e90f3526cb16c79a9c8b74c9b654ab"), looks := false }, kinds := [], alts := [], laidByText := true, laidKinds := [.data, .pinned], laidTests := true, laidLooks := .later }
def EditShiftsCardSaid : Prop := Claim7.holds Tryd.pinned (.plain (OpenSpec.ofChange editShiftsSpec)) editShiftsCard

/-- THE SECOND FORM's CARD OF 'emendatorlaw19.NormParses'. -/
def normParsesUptoCard : Claim7 := { stood := { row := normParsesUptoRow, standIns := [], harness := (true, "be55d48885dd0afee4e246eefeae7b1075e90f3526cb16c79a9c8b74c9b654ab"), looks := false }, kinds := [], alts := [], laidByText := true, laidKinds := [.data, .pinned], laidTests := true, laidLooks := .later }
def NormParsesUptoCardSaid : Prop := Claim7.holds Tryd.pinned (.plain (OpenSpec.upto normParsesSpec)) normParsesUptoCard

/-- THE SECOND FORM's CARD OF 'emendatorlaw19.NormKeys'. -/
def normKeysUptoCard : Claim7 := { stood := { row := normKeysUptoRow, standIns := [], harness := (true, "be55d48885dd0afee4e246eefeae7b1075e90f3526cb16c79a9c8b74c9b654ab"), looks := false }, kinds := [], alts := [], laidByText := true, laidKinds := [.data, .pinned], laidTests := true, laidLooks := .later }
def NormKeysUptoCardSaid : Prop := Claim7.holds Tryd.pinned (.plain (OpenSpec.upto normKeysSpec)) normKeysUptoCard

/-- THE SECOND FORM's CARD OF 'emendatorlaw16.EditJoins'. -/
def editJoinsUptoCard : Claim7 := { stood := { row := editJoinsUptoRow, standIns := [], harness := (true, "be55d48885dd0afee4e246eefeae7b1075e90f3526cb16c79a9c8b74c9b654ab"), looks := false }, kinds := [], alts := [], laidByText := true, laidKinds := [.data, .pinned], laidTests := true, laidLooks := .later }
def EditJoinsUptoCardSaid : Prop := Claim7.holds Tryd.pinned (.plain (OpenSpec.upto editJoinsSpec)) editJoinsUptoCard

/-- THE SECOND FORM's CARD OF 'emendatorlaw16.EditShifts'. -/
def editShiftsUptoCard : Claim7 := { stood := { row := editShiftsUptoRow, standIns := [], harness := (true, "be55d48885dd0afee4e246eefeae7b1075e90f3526cb16c79a9c8b74c9b654ab"), looks := false }, kinds := [], alts := [], laidByText := true, laidKinds := [.data, .pinned], laidTests := true, laidLooks := .later }
def EditShiftsUptoCardSaid : Prop := Claim7.holds Tryd.pinned (.plain (OpenSpec.upto editShiftsSpec)) editShiftsUptoCard
end Rows
end Go.Proofs.YtdkdoomjihflbaaDoor
