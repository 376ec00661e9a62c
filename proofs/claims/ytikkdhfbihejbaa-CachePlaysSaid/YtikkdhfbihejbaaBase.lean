/- General lemmas for walks: texts as lists of bytes, slices of texts and of numbers in memory, blocks below the call's own. No conditions. -/
import Derived.Test.YtikkdhfbihejbaaProg
import Derived.WalkKit
import Derived.WalkSpells
import Derived.WalkLawsBesides
import Derived.Lib.Hide
import Derived.BigQuiet
import Derived.Deep.QuietTactic
namespace Go.Proofs.Ytikkdhfbihejbaa
open Go.RowKit

/-- A list of bytes as a text. -/
def B (l : List UInt8) : ByteArray := ⟨l.toArray⟩
/-- A text's bytes. -/
def L (s : ByteArray) : List UInt8 := s.data.toList
theorem L_B (l : List UInt8) : L (B l) = l := rfl
theorem B_L (s : ByteArray) : B (L s) = s := by obtain ⟨⟨l⟩⟩ := s; rfl
theorem size_B (l : List UInt8) : (B l).size = l.length := by simp [B, ByteArray.size]
theorem length_L (s : ByteArray) : (L s).length = s.size := by obtain ⟨⟨l⟩⟩ := s; simp [L, ByteArray.size]
theorem B_append (a b : List UInt8) : B a ++ B b = B (a ++ b) := by
  apply ByteArray.ext; simp [B]
theorem L_append (a b : ByteArray) : L (a ++ b) = L a ++ L b := by
  obtain ⟨⟨a⟩⟩ := a; obtain ⟨⟨b⟩⟩ := b
  exact congrArg L (B_append a b)
theorem L_extract (s : ByteArray) (a b : Nat) : L (s.extract a b) = ((L s).drop a).take (b - a) := by
  obtain ⟨⟨l⟩⟩ := s
  simp [L]
theorem extract_B (s : ByteArray) (a b : Nat) : s.extract a b = B (((L s).drop a).take (b - a)) := by
  rw [← L_extract, B_L]
theorem extract_to_end (s : ByteArray) (a : Nat) : s.extract a s.size = B ((L s).drop a) := by
  rw [extract_B, List.take_of_length_le (by rw [List.length_drop, length_L]; omega)]
theorem extract_take (s : ByteArray) (b : Nat) : s.extract 0 b = B ((L s).take b) := by
  rw [extract_B]; simp
theorem get_L (s : ByteArray) (k : Nat) (h : k < s.size) : s[k] = (L s)[k]'(by rw [length_L]; exact h) := by
  obtain ⟨⟨l⟩⟩ := s; rfl
theorem L_inj {a b : ByteArray} (h : L a = L b) : a = b := by rw [← B_L a, ← B_L b, h]
theorem B_inj {a b : List UInt8} (h : B a = B b) : a = b := by rw [← L_B a, ← L_B b, h]
theorem toList_L (s : ByteArray) : s.toList = L s := ByteArray.toList_eq s
theorem toList_B (l : List UInt8) : (B l).toList = l := by rw [toList_L, L_B]
/-- '==' of texts, as the walk has it. -/
theorem str_eq (a b : ByteArray) : (a.toList == b.toList) = decide (L a = L b) := by
  rw [toList_L, toList_L, Bool.eq_iff_iff]; simp

theorem ret_u32 {a b : Int} (h : a = b) : Ending.returned (.int .u32 a) = .returned (.int .u32 b) := by rw [h]
theorem ret_i64 {a b : Int} (h : a = b) : Ending.returned (.int .i64 a) = .returned (.int .i64 b) := by rw [h]
theorem ret_str {a b : ByteArray} (h : a = b) : Ending.returned (.string a) = .returned (.string b) := by rw [h]
theorem val_u32 {a b : Int} (h : a = b) : Value.int .u32 a = .int .u32 b := by rw [h]
theorem val_u64 {a b : Int} (h : a = b) : Value.int .u64 a = .int .u64 b := by rw [h]
theorem val_str {a b : ByteArray} (h : a = b) : Value.string a = .string b := by rw [h]

/-- A block whose cell holds something is one of the heap's. -/
theorem lt_of_cell {w : World} {b off : Nat} {v : Value} (h : w.cell? ⟨b, off, none⟩ = some v) : b < w.heap.size := by
  rcases Nat.lt_or_ge b w.heap.size with h' | h'
  · exact h'
  · simp [World.cell?, Array.getElem?_eq_none h'] at h
/-- What stood below the call's own blocks stands behind it. -/
theorem cell_below {w w' : World} {K b off : Nat} {v : Value} (hb : Below K w w') (hK : b < K) (h : w.cell? ⟨b, off, none⟩ = some v) : w'.cell? ⟨b, off, none⟩ = some v :=
  (hb.cell (p := ⟨b, off, none⟩) hK).trans h

/-- One more call; one more call behind a new block, behind two, behind draws. -/
theorem step_call {w w1 w2 : World} (h : Below w.heap.size w w1) (b : Below w1.heap.size w1 w2) : Below w.heap.size w w2 := h.trans (b.mono h.size)
theorem step_alloc {w w1 w2 : World} (h : Below w.heap.size w w1) {o : Obj} (b : Below (w1.alloc o).heap.size (w1.alloc o) w2) : Below w.heap.size w w2 :=
  (h.alloc h.size o).trans (b.mono (by have := h.size; simp; omega))
theorem step_new {w w1 : World} (h : Below w.heap.size w w1) (o : Obj) : Below w.heap.size w (w1.alloc o) := h.alloc h.size o

/-- A slice of one-cell values: without elements, or a row whose first cells hold 'vs'. -/
def Row (w : World) (v : Value) (vs : List Value) : Prop :=
  (∃ a cap, v = .slice a 0 cap ∧ vs = []) ∨ ∃ b off cap, v = .slice (some ⟨b, off, none⟩) vs.length cap ∧ vs.length ≤ cap ∧ b < w.heap.size ∧ ∀ i (h : i < vs.length), w.cell? ⟨b, off + i, none⟩ = some vs[i]
theorem Row.below {w w' : World} {v : Value} {vs : List Value} (h : Row w v vs) (hb : Below w.heap.size w w') : Row w' v vs := by
  rcases h with h | ⟨b, off, cap, h1, h2, h3, h4⟩
  · exact .inl h
  · exact .inr ⟨b, off, cap, h1, h2, Nat.lt_of_lt_of_le h3 hb.size, fun i hi => cell_below hb h3 (h4 i hi)⟩
/-- A new block's row. -/
theorem Row.new (w : World) (vs : List Value) (t : TypeId) : Row (w.alloc (.cells vs.toArray t)) (.slice (some ⟨w.heap.size, 0, none⟩) vs.length vs.length) vs := by
  refine .inr ⟨w.heap.size, 0, vs.length, rfl, Nat.le_refl _, by simp, fun i hi => ?_⟩
  have hb : (w.alloc (.cells vs.toArray t)).heap[w.heap.size]? = some (.cells vs.toArray t (0, 0)) := heap_alloc_new w _
  simp only [World.cell?, hb, Nat.zero_add]; simp [hi]
/-- A slice that came in, read as a row. -/
theorem row_of_cells {w : World} {x : Addr} {len cap : Nat} {vs : List Value} (hl : vs.length = len) (hc : len ≤ cap) (h : ∀ i (h : i < vs.length), w.cell? (x.add i) = some vs[i]) : Row w (.slice (some x) len cap) vs := by
  subst hl
  by_cases h0 : vs.length = 0
  · exact .inl ⟨some x, cap, by rw [h0], List.length_eq_zero_iff.1 h0⟩
  · obtain ⟨b, off, spot⟩ := x
    have h1 := h 0 (by omega)
    have hs : spot = none := by simpa [Addr.add] using World.cell?_spot h1
    subst hs
    have h2 : ∀ i (h : i < vs.length), w.cell? ⟨b, off + i, none⟩ = some vs[i] := fun i hi => by
      have e : (⟨b, off, none⟩ : Addr).add i = ⟨b, off + i, none⟩ := by unfold Addr.add; split <;> simp_all
      rw [← e]; exact h i hi
    exact .inr ⟨b, off, cap, rfl, hc, lt_of_cell (h2 0 (by omega)), h2⟩
end Go.Proofs.Ytikkdhfbihejbaa
