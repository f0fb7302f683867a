/- The library's Insert, Delete and Clone at strings and at whole numbers, laid at this program (printed by the shelf's own tool). -/
import Derived.Shelf.Spec.SlicesInsert
import Derived.Shelf.Spec.SlicesInsertGrow
import Derived.Shelf.Slices.Cells
import Derived.Shelf.Slices.Clone
import Derived.Shelf.Slices.Empties
import Derived.Shelf.Slices.Turned
import Derived.Test.YtdhemdeapphfoaaGreatDoorProg
set_option linter.unusedVariables false
set_option linter.unusedSimpArgs false
namespace Go.Proofs
open Go.Shelf
def Tryz.insS_ren : Go.Shelf.Ren := ⟨fun | 22 => 67 | 29 => 96 | 30 => 97 | 36 => 131 | 17 => 155 | n => n, fun | 24 => 23 | 9 => 9 | 3 => 3 | 4 => 4 | 0 => 0 | n => n, fun | n => n⟩
theorem Tryz.insS : Go.Proofs.Lays2.n22 Tryz.prog Tryz.insS_ren := {
  mixed := by kernel_rfl
  f17 := Tryz.func155.trans (congrArg some (by kernel_rfl))
  f22 := Tryz.func67.trans (congrArg some (by kernel_rfl))
  f29 := Tryz.func96.trans (congrArg some (by kernel_rfl))
  f30 := Tryz.func97.trans (congrArg some (by kernel_rfl))
  f36 := Tryz.func131.trans (congrArg some (by kernel_rfl))
  t0 := Tryz.underlying0
  a0 := Tryz.isAgg0
  z0 := Tryz.sizeOf0
  v0 := Tryz.zeroValue0
  t3 := Tryz.underlying3
  a3 := Tryz.isAgg3
  z3 := Tryz.sizeOf3
  v3 := Tryz.zeroValue3
  t4 := Tryz.underlying4
  a4 := Tryz.isAgg4
  z4 := Tryz.sizeOf4
  v4 := Tryz.zeroValue4
  t9 := Tryz.underlying9
  a9 := Tryz.isAgg9
  z9 := Tryz.sizeOf9
  v9 := Tryz.zeroValue9
  t24 := Tryz.underlying23
  a24 := Tryz.isAgg23
  z24 := Tryz.sizeOf23
  v24 := Tryz.zeroValue23
  i9 := by kernel_rfl }
def Tryz.insI_ren : Go.Shelf.Ren := ⟨fun | 21 => 69 | 27 => 98 | 28 => 99 | 35 => 132 | 39 => 156 | n => n, fun | 22 => 72 | 3 => 3 | 4 => 4 | 0 => 0 | n => n, fun | n => n⟩
theorem Tryz.insI : Go.Proofs.Lays2.n21 Tryz.prog Tryz.insI_ren := {
  mixed := by kernel_rfl
  f21 := Tryz.func69.trans (congrArg some (by kernel_rfl))
  f27 := Tryz.func98.trans (congrArg some (by kernel_rfl))
  f28 := Tryz.func99.trans (congrArg some (by kernel_rfl))
  f35 := Tryz.func132.trans (congrArg some (by kernel_rfl))
  f39 := Tryz.func156.trans (congrArg some (by kernel_rfl))
  t0 := Tryz.underlying0
  a0 := Tryz.isAgg0
  z0 := Tryz.sizeOf0
  v0 := Tryz.zeroValue0
  t3 := Tryz.underlying3
  a3 := Tryz.isAgg3
  z3 := Tryz.sizeOf3
  v3 := Tryz.zeroValue3
  t4 := Tryz.underlying4
  a4 := Tryz.isAgg4
  z4 := Tryz.sizeOf4
  v4 := Tryz.zeroValue4
  t22 := Tryz.underlying72
  a22 := Tryz.isAgg72
  z22 := Tryz.sizeOf72
  v22 := Tryz.zeroValue72
  i3 := by kernel_rfl }
def Tryz.delS_ren : Go.Shelf.Ren := ⟨fun | 24 => 183 | n => n, fun | 24 => 23 | 9 => 9 | 3 => 3 | 4 => 4 | 0 => 0 | n => n, fun | n => n⟩
theorem Tryz.delS : Go.Proofs.Lays2.n24 Tryz.prog Tryz.delS_ren := {
  mixed := by kernel_rfl
  f24 := Tryz.func183.trans (congrArg some (by kernel_rfl))
  t0 := Tryz.underlying0
  a0 := Tryz.isAgg0
  z0 := Tryz.sizeOf0
  v0 := Tryz.zeroValue0
  t3 := Tryz.underlying3
  a3 := Tryz.isAgg3
  z3 := Tryz.sizeOf3
  v3 := Tryz.zeroValue3
  t4 := Tryz.underlying4
  a4 := Tryz.isAgg4
  z4 := Tryz.sizeOf4
  v4 := Tryz.zeroValue4
  t9 := Tryz.underlying9
  a9 := Tryz.isAgg9
  z9 := Tryz.sizeOf9
  v9 := Tryz.zeroValue9
  t24 := Tryz.underlying23
  a24 := Tryz.isAgg23
  z24 := Tryz.sizeOf23
  v24 := Tryz.zeroValue23
  i9 := by kernel_rfl }
def Tryz.delI_ren : Go.Shelf.Ren := ⟨fun | 23 => 192 | n => n, fun | 22 => 72 | 3 => 3 | 4 => 4 | 0 => 0 | n => n, fun | n => n⟩
theorem Tryz.delI : Go.Proofs.Lays2.n23 Tryz.prog Tryz.delI_ren := {
  mixed := by kernel_rfl
  f23 := Tryz.func192.trans (congrArg some (by kernel_rfl))
  t0 := Tryz.underlying0
  a0 := Tryz.isAgg0
  z0 := Tryz.sizeOf0
  v0 := Tryz.zeroValue0
  t3 := Tryz.underlying3
  a3 := Tryz.isAgg3
  z3 := Tryz.sizeOf3
  v3 := Tryz.zeroValue3
  t4 := Tryz.underlying4
  a4 := Tryz.isAgg4
  z4 := Tryz.sizeOf4
  v4 := Tryz.zeroValue4
  t22 := Tryz.underlying72
  a22 := Tryz.isAgg72
  z22 := Tryz.sizeOf72
  v22 := Tryz.zeroValue72
  i3 := by kernel_rfl }
def Tryz.cloS_ren : Go.Shelf.Ren := ⟨fun | 16 => 46 | n => n, fun | 24 => 23 | 9 => 9 | 4 => 4 | n => n, fun | n => n⟩
theorem Tryz.cloS : Go.Proofs.Lays2.n16 Tryz.prog Tryz.cloS_ren := {
  mixed := by kernel_rfl
  f16 := Tryz.func46.trans (congrArg some (by kernel_rfl))
  t4 := Tryz.underlying4
  a4 := Tryz.isAgg4
  z4 := Tryz.sizeOf4
  v4 := Tryz.zeroValue4
  t9 := Tryz.underlying9
  a9 := Tryz.isAgg9
  z9 := Tryz.sizeOf9
  v9 := Tryz.zeroValue9
  t24 := Tryz.underlying23
  a24 := Tryz.isAgg23
  z24 := Tryz.sizeOf23
  v24 := Tryz.zeroValue23
  i9 := by kernel_rfl }
def Tryz.cloI_ren : Go.Shelf.Ren := ⟨fun | 15 => 102 | n => n, fun | 22 => 72 | 3 => 3 | 4 => 4 | n => n, fun | n => n⟩
theorem Tryz.cloI : Go.Proofs.Lays2.n15 Tryz.prog Tryz.cloI_ren := {
  mixed := by kernel_rfl
  f15 := Tryz.func102.trans (congrArg some (by kernel_rfl))
  t3 := Tryz.underlying3
  a3 := Tryz.isAgg3
  z3 := Tryz.sizeOf3
  v3 := Tryz.zeroValue3
  t4 := Tryz.underlying4
  a4 := Tryz.isAgg4
  z4 := Tryz.sizeOf4
  v4 := Tryz.zeroValue4
  t22 := Tryz.underlying72
  a22 := Tryz.isAgg72
  z22 := Tryz.sizeOf72
  v22 := Tryz.zeroValue72
  i3 := by kernel_rfl }
end Go.Proofs
