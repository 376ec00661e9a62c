/- sort.Search at this translation: the library's contract laid at its numbers in plain words. No conditions. -/
import Derived.Shelf.SlSorted.Search
import Derived.Test.YtlfhgmclnapmjaaGreatDoorProg
namespace Go.Proofs.YtlfhgmclnapmjaaGreatDoor
open Go.Shelf
def sren : Go.Shelf.Ren := ⟨fun | 16 => 91 | n => n, fun | 3 => 3 | 4 => 4 | 35 => 96 | 38 => 63 | n => n, fun | n => n⟩
theorem lays16 : SlLaysO.n16 Tryz.prog sren := {
  mixed := by kernel_rfl
  f16 := Tryz.func91.trans (congrArg some (by kernel_rfl))
  t3 := Tryz.underlying3
  a3 := Tryz.isAgg3
  z3 := Tryz.sizeOf3
  v3 := Tryz.zeroValue3
  t4 := Tryz.underlying4
  a4 := Tryz.isAgg4
  z4 := Tryz.sizeOf4
  v4 := Tryz.zeroValue4
  t35 := Tryz.underlying96
  a35 := Tryz.isAgg96
  z35 := Tryz.sizeOf96
  v35 := Tryz.zeroValue96
  t38 := Tryz.underlying63
  a38 := Tryz.isAgg63
  z38 := Tryz.sizeOf63
  v38 := Tryz.zeroValue63 }
end Go.Proofs.YtlfhgmclnapmjaaGreatDoor
