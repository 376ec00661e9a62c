/- Slices of texts and of tokens, as a call owns them. No conditions. -/
import Derived.Test.YtlfhgmclnapmjaaGreatDoorBase
import Derived.Deep.AppendLies
namespace Go.Proofs.YtlfhgmclnapmjaaGreatDoor
open Go.RowKit

def txtCells (l : List (List UInt8)) : List Value := l.map fun s => .string (B s)
def txtV (l : List (List UInt8)) : List Value := l.map fun s => Value.string (B s)
theorem txtV_length (l : List (List UInt8)) : (txtV l).length = l.length := by simp [txtV]
theorem row_len {w : World} {v : Value} {vs : List Value} (h : Row w v vs) : ∃ oa c, v = .slice oa vs.length c := by
  rcases h with ⟨a, cap, rfl, h⟩ | ⟨b, off, cap, rfl, _⟩
  · exact ⟨a, cap, by rw [h]; rfl⟩
  · exact ⟨_, _, rfl⟩
theorem own_row {w : World} {base : Nat} {v : Value} {l : List (List UInt8)} (h : w.ownsRow base 9 1 v l.length (txtCells l)) : Row w v (txtV l) := by
  rcases h.2 with ⟨rfl, h0⟩ | ⟨g, cap, cur, rfl, hg, hh, h1, h2, h3, h4⟩
  · exact .inl ⟨none, 0, rfl, by simp [txtV, List.eq_nil_of_length_eq_zero h0]⟩
  · refine .inr ⟨g, 0, cap, by simp [txtV], by simpa [txtV] using h1, (h.lt g rfl).2, fun i hi => ?_⟩
    have hi' : i < l.length := by simpa [txtV] using hi
    rw [Lib.cell_of_heap hh, Nat.zero_add]
    have : cur.toList[i]? = (txtCells l)[i]? := by rw [← h4, List.getElem?_take, Nat.mul_one, if_pos hi']
    rw [← Array.getElem?_toList, this]
    simp [txtCells, txtV, hi']
/-- A slice of texts: its form and its cells. -/
theorem txt_row {w : World} {v : Value} {l : List (List UInt8)} (h : Row w v (txtV l)) : ∃ oa c, v = .slice oa l.length c ∧ ∀ i (hi : i < l.length), ∃ b off, oa = some ⟨b, off, none⟩ ∧ b < w.heap.size ∧ l.length ≤ c ∧ w.cell? ⟨b, off + i, none⟩ = some (.string (B l[i])) := by
  rcases h with ⟨a, cap, rfl, h0⟩ | ⟨b, off, cap, rfl, hc, hb, hcell⟩
  · have hl : l = [] := by cases l with
      | nil => rfl
      | cons x l => simp [txtV] at h0
    subst hl
    exact ⟨a, cap, rfl, fun i hi => by simp at hi⟩
  · rw [txtV_length] at *
    refine ⟨_, _, rfl, fun i hi => ⟨b, off, rfl, hb, hc, ?_⟩⟩
    rw [hcell i (by rw [txtV_length]; exact hi)]; simp [txtV]
theorem own_base {w : World} {base base' : Nat} {e : TypeId} {size : Nat} {v : Value} {n : Nat} {xs : List Value} (h : w.ownsRow base e size v n xs) (hb : base' ≤ base) : w.ownsRow base' e size v n xs := by
  refine ⟨h.1, ?_⟩
  rcases h.2 with hn | ⟨g, cap, cur, h1, h2, h3⟩
  · exact .inl hn
  · exact .inr ⟨g, cap, cur, h1, Nat.le_trans hb h2, h3⟩
theorem own_form {w : World} {base : Nat} {e : TypeId} {size : Nat} {v : Value} {n : Nat} {xs : List Value} (h : w.ownsRow base e size v n xs) : ∃ a c, v = .slice a n c := by
  rcases h.2 with ⟨rfl, h0⟩ | ⟨g, cap, cur, rfl, _⟩
  · exact ⟨none, 0, by rw [h0]⟩
  · exact ⟨_, _, rfl⟩
/-- Tokens: a term, a place. -/
def tokCells (l : List (List UInt8 × Nat)) : List Value := l.flatMap fun p => [.string (B p.1), .int .i64 (p.2 : Nat)]
theorem tokCells_append (a b : List (List UInt8 × Nat)) : tokCells (a ++ b) = tokCells a ++ tokCells b := by simp [tokCells]
theorem tokCells_get (es : List (List UInt8 × Nat)) (i : Nat) (h : i < es.length) : (tokCells es)[i * 2]? = some (.string (B es[i].1)) ∧ (tokCells es)[i * 2 + 1]? = some (.int .i64 (es[i].2 : Nat)) := by
  unfold tokCells
  induction es generalizing i with
  | nil => simp at h
  | cons e es ih =>
    cases i with
    | zero => simp
    | succ i =>
      have := ih i (by simpa using h)
      simp only [List.flatMap_cons, List.getElem_cons_succ]
      rw [show (i + 1) * 2 = i * 2 + 2 by omega]
      simpa using this
/-- A slice of tokens. -/
def Toks (w : World) (v : Value) (l : List (List UInt8 × Nat)) : Prop := ∃ oa c, v = .slice oa l.length c ∧ ∀ i (hi : i < l.length), ∃ b off, oa = some ⟨b, off, none⟩ ∧ b < w.heap.size ∧ w.cell? ⟨b, off + i * 2, none⟩ = some (.string (B l[i].1)) ∧ w.cell? ⟨b, off + i * 2 + 1, none⟩ = some (.int .i64 (l[i].2 : Nat))
theorem Toks.below {w w' : World} {v : Value} {l : List (List UInt8 × Nat)} (h : Toks w v l) (b : Below w.heap.size w w') : Toks w' v l := by
  obtain ⟨oa, c, h1, h2⟩ := h
  refine ⟨oa, c, h1, fun i hi => ?_⟩
  obtain ⟨g, off, e, hg, k1, k2⟩ := h2 i hi
  exact ⟨g, off, e, Nat.lt_of_lt_of_le hg b.size, cell_below b hg k1, cell_below b hg k2⟩
theorem own_toks {w : World} {base : Nat} {v : Value} {l : List (List UInt8 × Nat)} (h : w.ownsRow base 44 2 v l.length (tokCells l)) : Toks w v l := by
  rcases h.2 with ⟨rfl, h0⟩ | ⟨g, cap, cur, rfl, hg, hh, h1, h2, h3, h4⟩
  · exact ⟨none, 0, by rw [h0], fun i hi => by omega⟩
  · refine ⟨some ⟨g, 0, none⟩, cap, rfl, fun i hi => ⟨g, 0, rfl, (h.lt g rfl).2, ?_, ?_⟩⟩
    · rw [Lib.cell_of_heap hh, Nat.zero_add]
      have : cur.toList[i * 2]? = (tokCells l)[i * 2]? := by rw [← h4, List.getElem?_take, if_pos (by omega)]
      rw [← Array.getElem?_toList, this, (tokCells_get l i hi).1]
    · rw [Lib.cell_of_heap hh, Nat.zero_add]
      have : cur.toList[i * 2 + 1]? = (tokCells l)[i * 2 + 1]? := by rw [← h4, List.getElem?_take, if_pos (by omega)]
      rw [← Array.getElem?_toList, this, (tokCells_get l i hi).2]
theorem own_below {w w' : World} {base : Nat} {e : TypeId} {size : Nat} {v : Value} {n : Nat} {xs : List Value} (h : w.ownsRow base e size v n xs) (b : Below w.heap.size w w') : w'.ownsRow base e size v n xs := by
  refine ⟨h.1, ?_⟩
  rcases h.2 with hn | ⟨g, cap, cur, rfl, hb, hg, h3⟩
  · exact .inl hn
  · exact .inr ⟨g, cap, cur, rfl, hb, (b.block g (h.lt g rfl).2).trans hg, h3⟩
theorem cell2_new (w : World) (b : Nat) (hb : b = w.heap.size) (x y : Value) (t : TypeId) : ∀ (j : Nat) u, [x, y][j]? = some u → (w.alloc (.cells #[x, y] t)).cell? ((⟨b, 0, none⟩ : Addr).add j) = some u := by
  subst hb
  intro j u hu
  have hh := heap_alloc_new w (.cells #[x, y] t)
  match j, hu with
  | 0, hu => simp at hu; subst hu; rw [show ((⟨w.heap.size, 0, none⟩ : Addr).add 0) = ⟨w.heap.size, 0, none⟩ from rfl, Lib.cell_of_heap hh]; rfl
  | 1, hu => simp at hu; subst hu; rw [show ((⟨w.heap.size, 0, none⟩ : Addr).add 1) = ⟨w.heap.size, 1, none⟩ from rfl, Lib.cell_of_heap hh]; rfl
  | j + 2, hu => simp at hu
end Go.Proofs.YtlfhgmclnapmjaaGreatDoor
