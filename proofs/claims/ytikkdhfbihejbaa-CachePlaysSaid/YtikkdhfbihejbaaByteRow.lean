/- A block of bytes of the call's own that is read and stored into: made by a conversion of a text or by make. No conditions. -/
import Derived.Test.YtikkdhfbihejbaaOwnBytes
import Derived.Laws.IdiomStrings
import Derived.Deep.OwnRows
namespace Go.Proofs.Ytikkdhfbihejbaa
open Go.RowKit

/-- Block b begins with the bytes l; none of these is frozen. -/
def BRow (w : World) (b : Nat) (l : List UInt8) : Prop :=
  ∃ c lo hi, w.heap[b]? = some (.cells c 5 (lo, hi)) ∧ l.length ≤ c.size ∧ (∀ i (h : i < l.length), c[i]? = some (.int .u8 (l[i].toNat : Int))) ∧ ∀ i, i < l.length → ¬ (lo ≤ i ∧ i < hi)
theorem BRow.cell {w : World} {b : Nat} {l : List UInt8} (h : BRow w b l) (i : Nat) (hi : i < l.length) : w.cell? ⟨b, i, none⟩ = some (.int .u8 (l[i].toNat : Int)) := by
  obtain ⟨c, lo, hf, hb, _, hc, _⟩ := h
  simp only [World.cell?, hb]
  exact hc i hi
theorem BRow.frozen {w : World} {b : Nat} {l : List UInt8} (h : BRow w b l) (i : Nat) (hi : i < l.length) : w.frozen? ⟨b, i, none⟩ = false := by
  obtain ⟨c, lo, hf, hb, _, _, hc⟩ := h
  have := hc i hi
  simp only [World.frozen?, hb]
  rw [Bool.eq_false_iff]; simpa using this
theorem BRow.lt {w : World} {b : Nat} {l : List UInt8} (h : BRow w b l) : b < w.heap.size := by
  obtain ⟨c, lo, hf, hb, _⟩ := h
  rcases Nat.lt_or_ge b w.heap.size with h' | h'
  · exact h'
  · simp [Array.getElem?_eq_none h'] at hb
theorem BRow.below {w w' : World} {b : Nat} {l : List UInt8} (h : BRow w b l) (hb : Below w.heap.size w w') : BRow w' b l := by
  have hlt := h.lt
  obtain ⟨c, lo, hf, h1, h2⟩ := h
  exact ⟨c, lo, hf, (hb.block b hlt).trans h1, h2⟩
/-- A store into the row. -/
theorem BRow.set {w : World} {b : Nat} {l : List UInt8} (h : BRow w b l) (i : Nat) (hi : i < l.length) (v : UInt8) : BRow (w.setCell ⟨b, i, none⟩ (.int .u8 (v.toNat : Int))) b (l.set i v) := by
  obtain ⟨c, lo, hf, hb, hl, hc, hz⟩ := h
  refine ⟨c.setIfInBounds i (.int .u8 (v.toNat : Int)), lo, hf, ?_, by simpa using hl, fun j hj => ?_, fun j hj => hz j (by rw [List.length_set] at hj; exact hj)⟩
  · simp [World.setCell, Array.getElem?_modify, hb]
  · rw [List.length_set] at hj
    by_cases e : i = j
    · subst e
      simp [show i < c.size by omega]
    · rw [Array.getElem?_setIfInBounds, if_neg e, hc j hj]; simp [e]
/-- []byte(s). -/
theorem BRow.of_string (w : World) (s : ByteArray) : BRow (w.drew.alloc (.cells (bytesRow s (grownCap w s.size 0 5)) 5 ((bytesRow s (grownCap w s.size 0 5)).size, (bytesRow s (grownCap w s.size 0 5)).size + 1))) w.heap.size (L s) := by
  refine ⟨_, _, _, heap_alloc_new w.drew _, ?_, fun i hi => ?_, fun i hi => ?_⟩
  · rw [length_L]
    simp only [bytesRow, Array.size_append, Array.size_map]
    have e : s.data.size = s.size := rfl
    omega
  · obtain ⟨⟨l⟩⟩ := s
    simp only [L] at hi ⊢
    simp only [bytesRow]
    rw [Array.getElem?_append_left (by simpa using hi)]
    simp [hi]
  · have : i < (bytesRow s (grownCap w s.size 0 5)).size := by
      rw [length_L] at hi
      simp only [bytesRow, Array.size_append, Array.size_map]
      have e : s.data.size = s.size := rfl
      omega
    omega
/-- make([]byte, n). -/
theorem BRow.made (w : World) (n : Nat) : BRow (w.alloc (.cells (madeCells #[.int .u8 0] n) 5)) w.heap.size (List.replicate n 0) := by
  refine ⟨_, 0, 0, heap_alloc_new w _, by simp [size_madeCells], fun i hi => ?_, fun i _ h => by omega⟩
  simp at hi
  simp [madeCells, hi, Nat.mod_one]
/-- string(b) of such a row, whole. -/
theorem BRow.conv {w : World} {b : Nat} {l : List UInt8} (h : BRow w b l) (cap : Nat) : (convert 79 9 (.slice (some ⟨b, 0, none⟩) l.length cap)).run Try.prog w = .ok (.string (B l)) w := by
  have := run_convert_bytes_arg (P := Try.prog) w 79 5 Try.underlying79 Try.underlying5 b 0 l.length cap (l.map fun b => (b.toNat : Int)) (by simp) (fun i hi => by rw [Nat.zero_add, h.cell i hi]; simp [hi]) 9 Try.underlying9
  rw [this]
  exact congrArg (fun x => Result.ok (Value.string x) w) (nums_B l)
end Go.Proofs.Ytikkdhfbihejbaa
