/- A slice of the start memory is no longer than its room. No conditions. -/
import Derived.Test.YteemloillnfaeaaDoorOpenFiles
namespace Go.Proofs.YteemloillnfaeaaDoor
open Go.RowKit Go.ChangeShapes Go.WideShapes Go.Deep
section
variable {H : Type} {enc : TypeId × Value → H} {P : Program} {w : World} {base : Nat} {held : Bool}
theorem open_cap {t e : TypeId} {fuel : Nat} {oa : Option Addr} {len cap : Nat} {x : DataW H × List MemPlace}
    (ht : P.underlying t = some (.slice e)) (h : DataW.trod enc P w base (fun _ => true) held fuel t [.slice oa len cap] = some x) : len ≤ cap := by
  rcases open_slice ht h with ⟨hcs, _⟩ | ⟨a, l, c, m, n, D, Pl, hcs, _, hl, hm, hmm, _, hi⟩
  · simp only [List.cons.injEq, Value.slice.injEq, and_true] at hcs
    omega
  · simp only [List.cons.injEq, Value.slice.injEq, and_true] at hcs
    omega
end
end Go.Proofs.YteemloillnfaeaaDoor
