/- Texts built by a strings.Builder of the call's own: what it holds, as a list of bytes; it stands while other memory is made. No conditions. -/
import Derived.Test.YtlfhgmclnapmjaaGreatDoorShelf
import Derived.Test.YtlfhgmclnapmjaaGreatDoorBase
import Derived.Lib.OthersKept
namespace Go.Proofs.YtlfhgmclnapmjaaGreatDoor
open Go.RowKit

theorem builder_snoc {B b : Nat} {l : List UInt8} {n : Int} {w : World} {p : Value} (h0 : 0 ≤ n) (h1 : n < 256) (h : Lib.BuilderAtF 71 5 B b p (Lib.byteCells l ++ [.int .u8 n]) w) :
    Lib.BuilderAtF 71 5 B b p (Lib.byteCells (l ++ [UInt8.ofNat n.toNat])) w := by
  have : Lib.byteCells l ++ [Value.int .u8 n] = Lib.byteCells (l ++ [UInt8.ofNat n.toNat]) := by
    rw [Lib.byteCells_append]
    congr 1
    simp only [Lib.byteCells, List.map_cons, List.map_nil]
    rw [UInt8.toNat_ofNat', Nat.mod_eq_of_lt (by omega), show ((n.toNat : Nat) : Int) = n by omega]
  rw [← this]; exact h

theorem builder_str {B b : Nat} {l : List UInt8} {s : ByteArray} {w : World} {p : Value} (h : Lib.BuilderAtF 71 5 B b p (Lib.byteCells l ++ Lib.strCells s) w) :
    Lib.BuilderAtF 71 5 B b p (Lib.byteCells (l ++ L s)) w := by
  rw [Lib.byteCells_append]; exact h
theorem builderAt_below {T e : TypeId} {B b : Nat} {p : Value} {bs : List Value} {w w' : World} (h : Lib.BuilderAtF T e B b p bs w) (hb : Below w.heap.size w w') : Lib.BuilderAtF T e B b p bs w' := by
  obtain ⟨hB, v, h1, h2, h3⟩ := h
  have hlt : b < w.heap.size := by
    rcases Nat.lt_or_ge b w.heap.size with h' | h'
    · exact h'
    · simp [Array.getElem?_eq_none h'] at h1
  refine ⟨hB, v, (hb.block b hlt).trans h1, h2.kept (row := none) ⟨hb.os, hb.tape, hb.output, hb.size, fun k hk _ => hb.block k hk⟩ ?_, h3⟩
  cases hv : v.ownBlock with
  | none => exact .inl rfl
  | some k => exact .inr (by simp)
/-- A builder stands while memory is made beside it. -/
theorem builder_below {T e : TypeId} {B b : Nat} {bs : List Value} {w w' : World} (h : Lib.IsBuilderF T e B b bs w) (hb : Below w.heap.size w w') : Lib.IsBuilderF T e B b bs w' :=
  h.elim (fun h => .inl (builderAt_below h hb)) (fun h => .inr (builderAt_below h hb))
end Go.Proofs.YtlfhgmclnapmjaaGreatDoor
