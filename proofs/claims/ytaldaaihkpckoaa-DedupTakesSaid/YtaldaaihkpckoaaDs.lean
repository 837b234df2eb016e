/- Three of the library's functions on slices of int (Clone, BinarySearch, Insert), laid at this program: the numbers of the shelf's contracts are this program's own. -/
import Derived.Test.YtaldaaihkpckoaaChecked
import Derived.Shelf.Slices.Clone
import Derived.Shelf.Slices.SearchI
import Derived.Shelf.Slices.Empties
import Derived.Shelf.Spec.SlicesInsert
import Derived.Shelf.Spec.SlicesInsertGrow
namespace Go.Proofs
open Go.Shelf
def Try.laysClone_ren : Go.Shelf.Ren := ⟨fun | 15 => 20 | n => n, fun | 22 => 25 | 3 => 3 | 4 => 4 | n => n, fun | n => n⟩
theorem Try.laysClone : Go.Proofs.Lays2.n15 Try.prog Try.laysClone_ren := {
  mixed := by kernel_rfl
  f15 := Try.func20.trans (congrArg some (by kernel_rfl))
  t3 := Try.underlying3
  a3 := Try.isAgg3
  z3 := Try.sizeOf3
  v3 := Try.zeroValue3
  t4 := Try.underlying4
  a4 := Try.isAgg4
  z4 := Try.sizeOf4
  v4 := Try.zeroValue4
  t22 := Try.underlying25
  a22 := Try.isAgg25
  z22 := Try.sizeOf25
  v22 := Try.zeroValue25
  i3 := by kernel_rfl }
def Try.laysSearch_ren : Go.Shelf.Ren := ⟨fun | 25 => 18 | 31 => 22 | 32 => 23 | 37 => 26 | n => n, fun | 22 => 25 | 3 => 3 | 4 => 4 | 40 => 54 | 0 => 0 | n => n, fun | n => n⟩
theorem Try.laysSearch : Go.Proofs.Lays2.n25 Try.prog Try.laysSearch_ren := {
  mixed := by kernel_rfl
  f25 := Try.func18.trans (congrArg some (by kernel_rfl))
  f31 := Try.func22.trans (congrArg some (by kernel_rfl))
  f32 := Try.func23.trans (congrArg some (by kernel_rfl))
  f37 := Try.func26.trans (congrArg some (by kernel_rfl))
  t0 := Try.underlying0
  a0 := Try.isAgg0
  z0 := Try.sizeOf0
  v0 := Try.zeroValue0
  t3 := Try.underlying3
  a3 := Try.isAgg3
  z3 := Try.sizeOf3
  v3 := Try.zeroValue3
  t4 := Try.underlying4
  a4 := Try.isAgg4
  z4 := Try.sizeOf4
  v4 := Try.zeroValue4
  t22 := Try.underlying25
  a22 := Try.isAgg25
  z22 := Try.sizeOf25
  v22 := Try.zeroValue25
  t40 := Try.underlying54
  a40 := Try.isAgg54
  z40 := Try.sizeOf54
  v40 := Try.zeroValue54 }
def Try.laysInsert_ren : Go.Shelf.Ren := ⟨fun | 21 => 19 | 27 => 24 | 28 => 25 | 35 => 27 | 39 => 28 | n => n, fun | 22 => 25 | 3 => 3 | 4 => 4 | 0 => 0 | n => n, fun | n => n⟩
theorem Try.laysInsert : Go.Proofs.Lays2.n21 Try.prog Try.laysInsert_ren := {
  mixed := by kernel_rfl
  f21 := Try.func19.trans (congrArg some (by kernel_rfl))
  f27 := Try.func24.trans (congrArg some (by kernel_rfl))
  f28 := Try.func25.trans (congrArg some (by kernel_rfl))
  f35 := Try.func27.trans (congrArg some (by kernel_rfl))
  f39 := Try.func28.trans (congrArg some (by kernel_rfl))
  t0 := Try.underlying0
  a0 := Try.isAgg0
  z0 := Try.sizeOf0
  v0 := Try.zeroValue0
  t3 := Try.underlying3
  a3 := Try.isAgg3
  z3 := Try.sizeOf3
  v3 := Try.zeroValue3
  t4 := Try.underlying4
  a4 := Try.isAgg4
  z4 := Try.sizeOf4
  v4 := Try.zeroValue4
  t22 := Try.underlying25
  a22 := Try.isAgg25
  z22 := Try.sizeOf25
  v22 := Try.zeroValue25
  i3 := by kernel_rfl }
end Go.Proofs
