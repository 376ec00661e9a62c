/- Rows of bytes that a call has made itself: read as a text; one more byte appended. No conditions. -/
import Derived.Test.YtikkdhfbihejbaaBase
import Derived.Laws.BytesArg
import Derived.Lib.UnsafeStr
namespace Go.Proofs.Ytikkdhfbihejbaa
open Go.RowKit

theorem own_cells {w : World} {base : Nat} {v : Value} {l : List UInt8} (h : w.ownsRow base 5 1 v l.length (Lib.byteCells l)) :
    (v = .slice none 0 0 ∧ l = []) ∨ ∃ g cap, v = .slice (some ⟨g, 0, none⟩) l.length cap ∧ base ≤ g ∧ g < w.heap.size ∧ l.length ≤ cap ∧ ∀ i (h : i < l.length), w.cell? ⟨g, i, none⟩ = some (.int .u8 (l[i].toNat : Int)) := by
  rcases h.2 with ⟨rfl, h0⟩ | ⟨g, cap, cur, rfl, hg, hh, h1, h2, h3, h4⟩
  · exact .inl ⟨rfl, List.length_eq_zero_iff.1 h0⟩
  · refine .inr ⟨g, cap, rfl, hg, ?_, h1, fun i hi => ?_⟩
    · rcases Nat.lt_or_ge g w.heap.size with h' | h'
      · exact h'
      · simp [Array.getElem?_eq_none h'] at hh
    · simp only [World.cell?, hh]
      have : cur.toList[i]? = (Lib.byteCells l)[i]? := by rw [← h4, List.getElem?_take]; simp [hi]
      rw [← Array.getElem?_toList, this]
      simp [Lib.byteCells, hi]
theorem nums_B (l : List UInt8) : strOfNums (l.map fun b => (b.toNat : Int)) = B l := by
  unfold strOfNums B
  have e : (l.map fun b => (b.toNat : Int)).map (fun n => UInt8.ofNat n.toNat) = l := by
    rw [List.map_map]
    conv => rhs; rw [← List.map_id l]
    apply List.map_congr_left; intro b _; simp
  exact congrArg (fun x : List UInt8 => (⟨x.toArray⟩ : ByteArray)) e
/-- string(b) of such a row. -/
theorem conv_own {w : World} {base : Nat} {v : Value} {l : List UInt8} (h : w.ownsRow base 5 1 v l.length (Lib.byteCells l)) :
    (convert 79 9 v).run Try.prog w = .ok (.string (B l)) w := by
  rcases own_cells h with ⟨rfl, rfl⟩ | ⟨g, cap, rfl, _, _, _, hc⟩
  · exact run_convert_bytes_nil (P := Try.prog) w 79 5 Try.underlying79 Try.underlying5 0 0 9 Try.underlying9
  · have := run_convert_bytes_arg (P := Try.prog) w 79 5 Try.underlying79 Try.underlying5 g 0 l.length cap (l.map fun b => (b.toNat : Int)) (by simp) (fun i hi => by rw [Nat.zero_add, hc i hi]; simp [hi]) 9 Try.underlying9
    rw [this]
    exact congrArg (fun x => Result.ok (Value.string x) w) (nums_B l)
theorem bytes_snoc (l : List UInt8) (n : Nat) (h : n < 256) : Lib.byteCells l ++ [Value.int .u8 (n : Int)] = Lib.byteCells (l ++ [UInt8.ofNat n]) := by
  rw [Lib.byteCells_append]
  congr 1
  simp only [Lib.byteCells, List.map_cons, List.map_nil]
  rw [UInt8.toNat_ofNat', Nat.mod_eq_of_lt (by omega)]
theorem own_snoc {w : World} {base : Nat} {v : Value} {l : List UInt8} {n : Int} (h0 : 0 ≤ n) (h1 : n < 256) (h : w.ownsRow base 5 1 v (l.length + 1) (Lib.byteCells l ++ [.int .u8 n])) :
    w.ownsRow base 5 1 v (l ++ [UInt8.ofNat n.toNat]).length (Lib.byteCells (l ++ [UInt8.ofNat n.toNat])) := by
  rw [List.length_append, ← bytes_snoc l n.toNat (by omega)]
  rw [show ((n.toNat : Nat) : Int) = n by omega]
  exact h
theorem own_ge {w : World} {base e size n : Nat} {v : Value} {xs : List Value} (h : w.ownsRow base e size v n xs) : ∀ k, v.ownBlock = some k → base ≤ k := by
  rcases h.2 with ⟨rfl, _⟩ | ⟨g, cap, cur, rfl, hg, _⟩
  · intro k hk; simp [Value.ownBlock] at hk
  · intro k hk; simp only [Value.ownBlock, Option.some.injEq] at hk; omega
/-- Behind an append of a new block's cells onto a row of the call's own. -/
theorem below_append {W w w' : World} {v : Value} {o : Obj} {e size n : Nat} {xs : List Value} (hb : Below W.heap.size W w) (hown : w.ownsRow W.heap.size e size v n xs) (hg : (w.alloc o).grownBy w' v.ownBlock) : Below W.heap.size W w' :=
  (hb.alloc hb.size o).grown hg (by have := hb.size; simp; omega) (own_ge hown)
theorem Try.info_u8 : (Try.prog.info? 5).map (fun i => (i.zero, i.size, i.bytes)) = some (some (.int .u8 0), 1, 1) := by kernel_rfl
end Go.Proofs.Ytikkdhfbihejbaa
