/- sort.Search at this translation: the library's contract laid at its numbers in plain words. No conditions. -/
import Derived.Shelf.SlSorted.Search
import Derived.Test.YtefnddhondbjbaaProg
namespace Go.Proofs.Ytefnddhondbjbaa
open Go.Shelf
def sren : Go.Shelf.Ren := ⟨fun | 16 => 41 | n => n, fun | 3 => 3 | 4 => 4 | 35 => 89 | 38 => 82 | n => n, fun | n => n⟩
theorem lays16 : SlLaysO.n16 Try.prog sren := {
  mixed := by kernel_rfl
  f16 := Try.func41.trans (congrArg some (by kernel_rfl))
  t3 := Try.underlying3
  a3 := Try.isAgg3
  z3 := Try.sizeOf3
  v3 := Try.zeroValue3
  t4 := Try.underlying4
  a4 := Try.isAgg4
  z4 := Try.sizeOf4
  v4 := Try.zeroValue4
  t35 := Try.underlying89
  a35 := Try.isAgg89
  z35 := Try.sizeOf89
  v35 := Try.zeroValue89
  t38 := Try.underlying82
  a38 := Try.isAgg82
  z38 := Try.sizeOf82
  v38 := Try.zeroValue82 }
end Go.Proofs.Ytefnddhondbjbaa
