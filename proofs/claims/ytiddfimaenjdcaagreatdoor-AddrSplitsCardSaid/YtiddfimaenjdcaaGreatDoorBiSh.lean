/- The library's Insert, Delete and Clone at strings and at whole numbers, laid at this program (printed by the shelf's own tool). -/
import Derived.Shelf.Spec.SlicesInsert
import Derived.Shelf.Spec.SlicesInsertGrow
import Derived.Shelf.Slices.Cells
import Derived.Shelf.Slices.Clone
import Derived.Shelf.Slices.Empties
import Derived.Shelf.Slices.Turned
import Derived.Test.YtiddfimaenjdcaaGreatDoorProg
set_option linter.unusedVariables false
set_option linter.unusedSimpArgs false
namespace Go.Proofs
open Go.Shelf
def Tryz.insS_ren : Go.Shelf.Ren := ⟨fun | 22 => 57 | 29 => 78 | 30 => 79 | 36 => 107 | 17 => 129 | n => n, fun | 24 => 23 | 9 => 9 | 3 => 3 | 4 => 4 | 0 => 0 | n => n, fun | n => n⟩
theorem Tryz.insS : Go.Proofs.Lays2.n22 Tryz.prog Tryz.insS_ren := {
  mixed := by kernel_rfl
  f17 := Tryz.func129.trans (congrArg some (by kernel_rfl))
  f22 := Tryz.func57.trans (congrArg some (by kernel_rfl))
  f29 := Tryz.func78.trans (congrArg some (by kernel_rfl))
  f30 := Tryz.func79.trans (congrArg some (by kernel_rfl))
  f36 := Tryz.func107.trans (congrArg some (by kernel_rfl))
  t0 := Tryz.underlying0
  a0 := Tryz.isAgg0
  z0 := Tryz.sizeOf0
  v0 := Tryz.zeroValue0
  t3 := Tryz.underlying3
  a3 := Tryz.isAgg3
  z3 := Tryz.sizeOf3
  v3 := Tryz.zeroValue3
  t4 := Tryz.underlying4
  a4 := Tryz.isAgg4
  z4 := Tryz.sizeOf4
  v4 := Tryz.zeroValue4
  t9 := Tryz.underlying9
  a9 := Tryz.isAgg9
  z9 := Tryz.sizeOf9
  v9 := Tryz.zeroValue9
  t24 := Tryz.underlying23
  a24 := Tryz.isAgg23
  z24 := Tryz.sizeOf23
  v24 := Tryz.zeroValue23
  i9 := by kernel_rfl }
def Tryz.insI_ren : Go.Shelf.Ren := ⟨fun | 21 => 59 | 27 => 80 | 28 => 81 | 35 => 108 | 39 => 130 | n => n, fun | 22 => 81 | 3 => 3 | 4 => 4 | 0 => 0 | n => n, fun | n => n⟩
theorem Tryz.insI : Go.Proofs.Lays2.n21 Tryz.prog Tryz.insI_ren := {
  mixed := by kernel_rfl
  f21 := Tryz.func59.trans (congrArg some (by kernel_rfl))
  f27 := Tryz.func80.trans (congrArg some (by kernel_rfl))
  f28 := Tryz.func81.trans (congrArg some (by kernel_rfl))
  f35 := Tryz.func108.trans (congrArg some (by kernel_rfl))
  f39 := Tryz.func130.trans (congrArg some (by kernel_rfl))
  t0 := Tryz.underlying0
  a0 := Tryz.isAgg0
  z0 := Tryz.sizeOf0
  v0 := Tryz.zeroValue0
  t3 := Tryz.underlying3
  a3 := Tryz.isAgg3
  z3 := Tryz.sizeOf3
  v3 := Tryz.zeroValue3
  t4 := Tryz.underlying4
  a4 := Tryz.isAgg4
  z4 := Tryz.sizeOf4
  v4 := Tryz.zeroValue4
  t22 := Tryz.underlying81
  a22 := Tryz.isAgg81
  z22 := Tryz.sizeOf81
  v22 := Tryz.zeroValue81
  i3 := by kernel_rfl }
def Tryz.cloS_ren : Go.Shelf.Ren := ⟨fun | 16 => 83 | n => n, fun | 24 => 23 | 9 => 9 | 4 => 4 | n => n, fun | n => n⟩
theorem Tryz.cloS : Go.Proofs.Lays2.n16 Tryz.prog Tryz.cloS_ren := {
  mixed := by kernel_rfl
  f16 := Tryz.func83.trans (congrArg some (by kernel_rfl))
  t4 := Tryz.underlying4
  a4 := Tryz.isAgg4
  z4 := Tryz.sizeOf4
  v4 := Tryz.zeroValue4
  t9 := Tryz.underlying9
  a9 := Tryz.isAgg9
  z9 := Tryz.sizeOf9
  v9 := Tryz.zeroValue9
  t24 := Tryz.underlying23
  a24 := Tryz.isAgg23
  z24 := Tryz.sizeOf23
  v24 := Tryz.zeroValue23
  i9 := by kernel_rfl }
def Tryz.cloI_ren : Go.Shelf.Ren := ⟨fun | 15 => 85 | n => n, fun | 22 => 81 | 3 => 3 | 4 => 4 | n => n, fun | n => n⟩
theorem Tryz.cloI : Go.Proofs.Lays2.n15 Tryz.prog Tryz.cloI_ren := {
  mixed := by kernel_rfl
  f15 := Tryz.func85.trans (congrArg some (by kernel_rfl))
  t3 := Tryz.underlying3
  a3 := Tryz.isAgg3
  z3 := Tryz.sizeOf3
  v3 := Tryz.zeroValue3
  t4 := Tryz.underlying4
  a4 := Tryz.isAgg4
  z4 := Tryz.sizeOf4
  v4 := Tryz.zeroValue4
  t22 := Tryz.underlying81
  a22 := Tryz.isAgg81
  z22 := Tryz.sizeOf81
  v22 := Tryz.zeroValue81
  i3 := by kernel_rfl }
end Go.Proofs
