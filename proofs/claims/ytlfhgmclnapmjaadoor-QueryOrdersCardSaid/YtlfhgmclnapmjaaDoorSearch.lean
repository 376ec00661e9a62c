/- sort.Search at this translation: the library's contract laid at its numbers in plain words. No conditions. -/
import Derived.Shelf.SlSorted.Search
import Derived.Test.YtlfhgmclnapmjaaDoorProg
namespace Go.Proofs.YtlfhgmclnapmjaaDoor
open Go.Shelf
def sren : Go.Shelf.Ren := ⟨fun | 16 => 103 | n => n, fun | 3 => 3 | 4 => 4 | 35 => 89 | 38 => 88 | n => n, fun | n => n⟩
theorem lays16 : SlLaysO.n16 Tryd.prog sren := {
  mixed := by kernel_rfl
  f16 := Tryd.func103.trans (congrArg some (by kernel_rfl))
  t3 := Tryd.underlying3
  a3 := Tryd.isAgg3
  z3 := Tryd.sizeOf3
  v3 := Tryd.zeroValue3
  t4 := Tryd.underlying4
  a4 := Tryd.isAgg4
  z4 := Tryd.sizeOf4
  v4 := Tryd.zeroValue4
  t35 := Tryd.underlying89
  a35 := Tryd.isAgg89
  z35 := Tryd.sizeOf89
  v35 := Tryd.zeroValue89
  t38 := Tryd.underlying88
  a38 := Tryd.isAgg88
  z38 := Tryd.sizeOf88
  v38 := Tryd.zeroValue88 }
end Go.Proofs.YtlfhgmclnapmjaaDoor
