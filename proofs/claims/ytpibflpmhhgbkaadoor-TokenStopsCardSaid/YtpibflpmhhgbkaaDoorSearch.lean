/- sort.Search at this translation: the library's contract laid at its numbers in plain words. No conditions. -/
import Derived.Shelf.SlSorted.Search
import Derived.Test.YtpibflpmhhgbkaaDoorProg
namespace Go.Proofs.YtpibflpmhhgbkaaDoor
open Go.Shelf
def sren : Go.Shelf.Ren := ⟨fun | 16 => 47 | n => n, fun | 3 => 3 | 4 => 4 | 35 => 57 | 38 => 64 | n => n, fun | n => n⟩
theorem lays16 : SlLaysO.n16 Tryd.prog sren := {
  mixed := by kernel_rfl
  f16 := Tryd.func47.trans (congrArg some (by kernel_rfl))
  t3 := Tryd.underlying3
  a3 := Tryd.isAgg3
  z3 := Tryd.sizeOf3
  v3 := Tryd.zeroValue3
  t4 := Tryd.underlying4
  a4 := Tryd.isAgg4
  z4 := Tryd.sizeOf4
  v4 := Tryd.zeroValue4
  t35 := Tryd.underlying57
  a35 := Tryd.isAgg57
  z35 := Tryd.sizeOf57
  v35 := Tryd.zeroValue57
  t38 := Tryd.underlying64
  a38 := Tryd.isAgg64
  z38 := Tryd.sizeOf64
  v38 := Tryd.zeroValue64 }
end Go.Proofs.YtpibflpmhhgbkaaDoor
