/- The library's Insert, Delete and Clone at strings and at whole numbers, laid at this program (printed by the shelf's own tool). -/
import Derived.Shelf.Spec.SlicesInsert
import Derived.Shelf.Spec.SlicesInsertGrow
import Derived.Shelf.Slices.Cells
import Derived.Shelf.Slices.Clone
import Derived.Shelf.Slices.Empties
import Derived.Shelf.Slices.Turned
import Derived.Test.YtdmldkpjdfmgeaaProg
set_option linter.unusedVariables false
set_option linter.unusedSimpArgs false
namespace Go.Proofs
open Go.Shelf
def Try.insS_ren : Go.Shelf.Ren := ⟨fun | 22 => 72 | 29 => 83 | 30 => 84 | 36 => 94 | 17 => 99 | n => n, fun | 24 => 22 | 9 => 9 | 3 => 3 | 4 => 4 | 0 => 0 | n => n, fun | n => n⟩
theorem Try.insS : Go.Proofs.Lays2.n22 Try.prog Try.insS_ren := {
  mixed := by kernel_rfl
  f17 := Try.func99.trans (congrArg some (by kernel_rfl))
  f22 := Try.func72.trans (congrArg some (by kernel_rfl))
  f29 := Try.func83.trans (congrArg some (by kernel_rfl))
  f30 := Try.func84.trans (congrArg some (by kernel_rfl))
  f36 := Try.func94.trans (congrArg some (by kernel_rfl))
  t0 := Try.underlying0
  a0 := Try.isAgg0
  z0 := Try.sizeOf0
  v0 := Try.zeroValue0
  t3 := Try.underlying3
  a3 := Try.isAgg3
  z3 := Try.sizeOf3
  v3 := Try.zeroValue3
  t4 := Try.underlying4
  a4 := Try.isAgg4
  z4 := Try.sizeOf4
  v4 := Try.zeroValue4
  t9 := Try.underlying9
  a9 := Try.isAgg9
  z9 := Try.sizeOf9
  v9 := Try.zeroValue9
  t24 := Try.underlying22
  a24 := Try.isAgg22
  z24 := Try.sizeOf22
  v24 := Try.zeroValue22
  i9 := by kernel_rfl }
def Try.insI_ren : Go.Shelf.Ren := ⟨fun | 21 => 73 | 27 => 85 | 28 => 86 | 35 => 95 | 39 => 100 | n => n, fun | 22 => 62 | 3 => 3 | 4 => 4 | 0 => 0 | n => n, fun | n => n⟩
theorem Try.insI : Go.Proofs.Lays2.n21 Try.prog Try.insI_ren := {
  mixed := by kernel_rfl
  f21 := Try.func73.trans (congrArg some (by kernel_rfl))
  f27 := Try.func85.trans (congrArg some (by kernel_rfl))
  f28 := Try.func86.trans (congrArg some (by kernel_rfl))
  f35 := Try.func95.trans (congrArg some (by kernel_rfl))
  f39 := Try.func100.trans (congrArg some (by kernel_rfl))
  t0 := Try.underlying0
  a0 := Try.isAgg0
  z0 := Try.sizeOf0
  v0 := Try.zeroValue0
  t3 := Try.underlying3
  a3 := Try.isAgg3
  z3 := Try.sizeOf3
  v3 := Try.zeroValue3
  t4 := Try.underlying4
  a4 := Try.isAgg4
  z4 := Try.sizeOf4
  v4 := Try.zeroValue4
  t22 := Try.underlying62
  a22 := Try.isAgg62
  z22 := Try.sizeOf62
  v22 := Try.zeroValue62
  i3 := by kernel_rfl }
def Try.delS_ren : Go.Shelf.Ren := ⟨fun | 24 => 91 | n => n, fun | 24 => 22 | 9 => 9 | 3 => 3 | 4 => 4 | 0 => 0 | n => n, fun | n => n⟩
theorem Try.delS : Go.Proofs.Lays2.n24 Try.prog Try.delS_ren := {
  mixed := by kernel_rfl
  f24 := Try.func91.trans (congrArg some (by kernel_rfl))
  t0 := Try.underlying0
  a0 := Try.isAgg0
  z0 := Try.sizeOf0
  v0 := Try.zeroValue0
  t3 := Try.underlying3
  a3 := Try.isAgg3
  z3 := Try.sizeOf3
  v3 := Try.zeroValue3
  t4 := Try.underlying4
  a4 := Try.isAgg4
  z4 := Try.sizeOf4
  v4 := Try.zeroValue4
  t9 := Try.underlying9
  a9 := Try.isAgg9
  z9 := Try.sizeOf9
  v9 := Try.zeroValue9
  t24 := Try.underlying22
  a24 := Try.isAgg22
  z24 := Try.sizeOf22
  v24 := Try.zeroValue22
  i9 := by kernel_rfl }
def Try.delI_ren : Go.Shelf.Ren := ⟨fun | 23 => 101 | n => n, fun | 22 => 62 | 3 => 3 | 4 => 4 | 0 => 0 | n => n, fun | n => n⟩
theorem Try.delI : Go.Proofs.Lays2.n23 Try.prog Try.delI_ren := {
  mixed := by kernel_rfl
  f23 := Try.func101.trans (congrArg some (by kernel_rfl))
  t0 := Try.underlying0
  a0 := Try.isAgg0
  z0 := Try.sizeOf0
  v0 := Try.zeroValue0
  t3 := Try.underlying3
  a3 := Try.isAgg3
  z3 := Try.sizeOf3
  v3 := Try.zeroValue3
  t4 := Try.underlying4
  a4 := Try.isAgg4
  z4 := Try.sizeOf4
  v4 := Try.zeroValue4
  t22 := Try.underlying62
  a22 := Try.isAgg62
  z22 := Try.sizeOf62
  v22 := Try.zeroValue62
  i3 := by kernel_rfl }
def Try.cloS_ren : Go.Shelf.Ren := ⟨fun | 16 => 29 | n => n, fun | 24 => 22 | 9 => 9 | 4 => 4 | n => n, fun | n => n⟩
theorem Try.cloS : Go.Proofs.Lays2.n16 Try.prog Try.cloS_ren := {
  mixed := by kernel_rfl
  f16 := Try.func29.trans (congrArg some (by kernel_rfl))
  t4 := Try.underlying4
  a4 := Try.isAgg4
  z4 := Try.sizeOf4
  v4 := Try.zeroValue4
  t9 := Try.underlying9
  a9 := Try.isAgg9
  z9 := Try.sizeOf9
  v9 := Try.zeroValue9
  t24 := Try.underlying22
  a24 := Try.isAgg22
  z24 := Try.sizeOf22
  v24 := Try.zeroValue22
  i9 := by kernel_rfl }
def Try.cloI_ren : Go.Shelf.Ren := ⟨fun | 15 => 89 | n => n, fun | 22 => 62 | 3 => 3 | 4 => 4 | n => n, fun | n => n⟩
theorem Try.cloI : Go.Proofs.Lays2.n15 Try.prog Try.cloI_ren := {
  mixed := by kernel_rfl
  f15 := Try.func89.trans (congrArg some (by kernel_rfl))
  t3 := Try.underlying3
  a3 := Try.isAgg3
  z3 := Try.sizeOf3
  v3 := Try.zeroValue3
  t4 := Try.underlying4
  a4 := Try.isAgg4
  z4 := Try.sizeOf4
  v4 := Try.zeroValue4
  t22 := Try.underlying62
  a22 := Try.isAgg62
  z22 := Try.sizeOf62
  v22 := Try.zeroValue62
  i3 := by kernel_rfl }
end Go.Proofs
