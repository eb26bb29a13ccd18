/- Three of the shelf's contracts laid at this dump, in plain words (lay-plain wrote the fields). -/
import Derived.Shelf.SlSortCmp.InsertionK
import Derived.Shelf.SlicesG.Cmp
import Derived.Shelf.SlicesE.Clone
import Derived.Shelf.SlGeneric
import Derived.Test.YtclplacjgofccaaProg
namespace Go.Proofs.Ytclplacjgofccaa
open Go.Shelf
def ins36_ren : Go.Shelf.Ren := ⟨fun | 20 => 36 | n => n, fun | 24 => 64 | 22 => 56 | 3 => 3 | 25 => 72 | 4 => 4 | 0 => 0 | n => n, fun | n => n⟩
theorem ins36 : Go.Proofs.SlLaysF0.n20 Try.prog ins36_ren := {
  mixed := by kernel_rfl
  f20 := ⟨Try.f36.name, by decide, Try.func36.trans (congrArg some (by kernel_rfl))⟩
  t0 := Try.underlying0
  a0 := Try.isAgg0
  z0 := Try.sizeOf0
  v0 := Try.zeroValue0
  t3 := Try.underlying3
  a3 := Try.isAgg3
  z3 := Try.sizeOf3
  v3 := Try.zeroValue3
  t4 := Try.underlying4
  a4 := Try.isAgg4
  z4 := Try.sizeOf4
  v4 := Try.zeroValue4
  t22 := Try.underlying56
  a22 := Try.isAgg56
  z22 := Try.sizeOf56
  v22 := Try.zeroValue56
  t25 := Try.underlying72
  a25 := Try.isAgg72
  z25 := Try.sizeOf72
  v25 := Try.zeroValue72 }
def cmpInt_ren : Go.Shelf.Ren := ⟨fun | 5 => 31 | 7 => 35 | n => n, fun | 22 => 3 | 3 => 3 | 4 => 4 | n => n, fun | n => n⟩
theorem cmpInt : Go.Proofs.SlLaysC2.n5 Try.prog cmpInt_ren := {
  mixed := by kernel_rfl
  f5 := ⟨Try.f31.name, by decide, Try.func31.trans (congrArg some (by kernel_rfl))⟩
  f7 := ⟨Try.f35.name, by decide, Try.func35.trans (congrArg some (by kernel_rfl))⟩
  t3 := Try.underlying3
  a3 := Try.isAgg3
  z3 := Try.sizeOf3
  v3 := Try.zeroValue3
  t4 := Try.underlying4
  a4 := Try.isAgg4
  z4 := Try.sizeOf4
  v4 := Try.zeroValue4
  t22 := Try.underlying3
  a22 := Try.isAgg3
  z22 := Try.sizeOf3
  v22 := Try.zeroValue3 }
def clone28_ren : Go.Shelf.Ren := ⟨fun | 41 => 28 | n => n, fun | 22 => 56 | 23 => 64 | 4 => 4 | n => n, fun | n => n⟩
theorem clone28 : Go.Proofs.SlLaysE0.n41 Try.prog clone28_ren := {
  mixed := by kernel_rfl
  f41 := ⟨Try.f28.name, by decide, Try.func28.trans (congrArg some (by kernel_rfl))⟩
  t4 := Try.underlying4
  a4 := Try.isAgg4
  z4 := Try.sizeOf4
  v4 := Try.zeroValue4
  t22 := Try.underlying56
  a22 := Try.isAgg56
  z22 := Try.sizeOf56
  v22 := Try.zeroValue56 }
end Go.Proofs.Ytclplacjgofccaa
