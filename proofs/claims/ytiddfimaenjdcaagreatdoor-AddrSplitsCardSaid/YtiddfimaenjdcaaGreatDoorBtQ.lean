/- The tree's mend, walked: its five ways. -/
import Derived.Test.YtiddfimaenjdcaaGreatDoorBtO
set_option linter.unusedVariables false
set_option linter.unusedSimpArgs false
namespace Go.Proofs.YtiddfimaenjdcaaGreatDoor
open Go.RowKit Go.Shelf Go.Proofs.YtiddfimaenjdcaaGreatDoorW.PrintWords Go.Proofs.YtiddfimaenjdcaaGreatDoorW.PrintLast

theorem cell_old2 {w : World} {a : Addr} {v : Value} (h : w.cell? a = some v) (o o2 : Obj) (q : Nat) : ((((w.alloc o).alloc o2).drewN q).drew).cell? a = some v := by
  have hb := World.block_lt_of_cell? w a h
  refine Eq.trans (World.cell?_of_block (w := w) ?_) h
  exact (Below.heap_alloc _ _ _ (by simp; omega)).trans (Below.heap_alloc _ _ _ hb)

end Go.Proofs.YtiddfimaenjdcaaGreatDoor
