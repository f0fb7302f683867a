
import Derived.Test.YtdhemdeapphfoaaGreatDoorProg
import Derived.Test.YtdhemdeapphfoaaGreatDoorShelf
import Derived.Shelf.Strings.SlTrimAscii
import Derived.Tactics
import Derived.WalkKit
import Derived.Below
import Derived.Lib.Hide
import Derived.Deep.QuietTactic
import Derived.BigQuiet
import Derived.Test.YtdhemdeapphfoaaGreatDoorWWords
set_option linter.unusedVariables false
set_option linter.unusedSimpArgs false

/- edit: Join, and the document's Join: both are one function of the texts. -/
namespace Go.Proofs.YtdhemdeapphfoaaGreatDoor
open Go.RowKit Go.Proofs.YtdhemdeapphfoaaGreatDoorW.PrintWords

theorem lays161b : (Tryz.prog.info? (Tryz.lays161_ren.t 116)).map (fun i => (i.zero, i.size)) = some (some (.agg (Array.replicate 256 (.bool false))), 256) := by kernel_rfl

end Go.Proofs.YtdhemdeapphfoaaGreatDoor

/- edit.Join, walked. -/
namespace Go.Proofs.YtdhemdeapphfoaaGreatDoor
open Go.RowKit Go.Proofs.YtdhemdeapphfoaaGreatDoorW.PrintWords

end Go.Proofs.YtdhemdeapphfoaaGreatDoor

/- The document's Join, walked: the same function. -/
namespace Go.Proofs.YtdhemdeapphfoaaGreatDoor
open Go.RowKit Go.Proofs.YtdhemdeapphfoaaGreatDoorW.PrintWords

end Go.Proofs.YtdhemdeapphfoaaGreatDoor

/- edit: Shift, back; the document's Shift, less: one function of the texts. -/
namespace Go.Proofs.YtdhemdeapphfoaaGreatDoor
open Go.RowKit Go.Proofs.YtdhemdeapphfoaaGreatDoorW.PrintWords

end Go.Proofs.YtdhemdeapphfoaaGreatDoor

/- the document's less, walked. -/
namespace Go.Proofs.YtdhemdeapphfoaaGreatDoor
open Go.RowKit Go.Proofs.YtdhemdeapphfoaaGreatDoorW.PrintWords

end Go.Proofs.YtdhemdeapphfoaaGreatDoor

/- edit.Shift and the document's Shift, walked: one function of the text. -/
namespace Go.Proofs.YtdhemdeapphfoaaGreatDoor
open Go.RowKit Go.Proofs.YtdhemdeapphfoaaGreatDoorW.PrintWords

end Go.Proofs.YtdhemdeapphfoaaGreatDoor

/- The document's Shift, walked. -/
namespace Go.Proofs.YtdhemdeapphfoaaGreatDoor
open Go.RowKit Go.Proofs.YtdhemdeapphfoaaGreatDoorW.PrintWords

end Go.Proofs.YtdhemdeapphfoaaGreatDoor

/- The laws EditJoins and EditShifts, walked. -/
namespace Go.Proofs.YtdhemdeapphfoaaGreatDoor
open Go.RowKit Go.Proofs.YtdhemdeapphfoaaGreatDoorW.PrintWords

end Go.Proofs.YtdhemdeapphfoaaGreatDoor
