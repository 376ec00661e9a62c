/- Slices of texts and of writes, as they come in and as a call owns them. No conditions. -/
import Derived.Test.YtlgfjoicdbjfjaaDoorBlkMem
namespace Go.Proofs.YtlgfjoicdbjfjaaDoor
open Go.RowKit Go.Blk

def txtV (l : List Txt) : List Value := l.map fun s => Value.string (B s)
theorem txtV_length (l : List Txt) : (txtV l).length = l.length := by simp [txtV]
theorem row_len {w : World} {v : Value} {vs : List Value} (h : Row w v vs) : ∃ oa c, v = .slice oa vs.length c := by
  rcases h with ⟨a, cap, rfl, h⟩ | ⟨b, off, cap, rfl, _⟩
  · exact ⟨a, cap, by rw [h]; rfl⟩
  · exact ⟨_, _, rfl⟩
theorem own_row {w : World} {base : Nat} {v : Value} {l : List Txt} (h : w.ownsRow base 9 1 v l.length (txtCells l)) : Row w v (txtV l) := by
  rcases h.2 with ⟨rfl, h0⟩ | ⟨g, cap, cur, rfl, hg, hh, h1, h2, h3, h4⟩
  · exact .inl ⟨none, 0, rfl, by simp [txtV, List.eq_nil_of_length_eq_zero h0]⟩
  · refine .inr ⟨g, 0, cap, by simp [txtV], by simpa [txtV] using h1, (h.lt g rfl).2, fun i hi => ?_⟩
    have hi' : i < l.length := by simpa [txtV] using hi
    rw [Lib.cell_of_heap hh, Nat.zero_add]
    have : cur.toList[i]? = (txtCells l)[i]? := by rw [← h4, List.getElem?_take, Nat.mul_one, if_pos hi']
    rw [← Array.getElem?_toList, this]
    simp [txtCells, txtV, hi']
/-- A slice of texts: its form and its cells. -/
theorem txt_row {w : World} {v : Value} {l : List Txt} (h : Row w v (txtV l)) : ∃ oa c, v = .slice oa l.length c ∧ ∀ i (hi : i < l.length), ∃ b off, oa = some ⟨b, off, none⟩ ∧ b < w.heap.size ∧ l.length ≤ c ∧ w.cell? ⟨b, off + i, none⟩ = some (.string (B l[i])) := by
  rcases h with ⟨a, cap, rfl, h0⟩ | ⟨b, off, cap, rfl, hc, hb, hcell⟩
  · have hl : l = [] := by cases l with
      | nil => rfl
      | cons x l => simp [txtV] at h0
    subst hl
    exact ⟨a, cap, rfl, fun i hi => by simp at hi⟩
  · rw [txtV_length] at *
    refine ⟨_, _, rfl, fun i hi => ⟨b, off, rfl, hb, hc, ?_⟩⟩
    rw [hcell i (by rw [txtV_length]; exact hi)]; simp [txtV]
/-- The rest of a slice of texts, its first ones. -/
theorem row_tail {w : World} {b off : Nat} {cap : Nat} {vs : List Value} (hb : b < w.heap.size) (hc : vs.length ≤ cap) (hcell : ∀ i (h : i < vs.length), w.cell? ⟨b, off + i, none⟩ = some vs[i]) : Row w (.slice (some ⟨b, off, none⟩) vs.length cap) vs := .inr ⟨b, off, cap, rfl, hc, hb, hcell⟩
/-- Writes as they come in. -/
def Wrs (w : World) (v : Value) (l : List (Int × Txt)) : Prop := (∃ a cap, v = .slice a 0 cap ∧ l = []) ∨ ∃ b off cap, v = .slice (some ⟨b, off, none⟩) l.length cap ∧ b < w.heap.size ∧ ∀ i (h : i < l.length), w.cell? ⟨b, off + i * 2, none⟩ = some (.int .i64 l[i].1) ∧ w.cell? ⟨b, off + i * 2 + 1, none⟩ = some (.string (B l[i].2))
theorem Wrs.below {w w' : World} {v : Value} {l : List (Int × Txt)} (h : Wrs w v l) (b : Below w.heap.size w w') : Wrs w' v l := by
  rcases h with h | ⟨b0, off, cap, h1, h2, h3⟩
  · exact .inl h
  · exact .inr ⟨b0, off, cap, h1, Nat.lt_of_lt_of_le h2 b.size, fun i hi => ⟨cell_call b (h3 i hi).1, cell_call b (h3 i hi).2⟩⟩
theorem Wrs.form {w : World} {v : Value} {l : List (Int × Txt)} (h : Wrs w v l) : ∃ oa c, v = .slice oa l.length c ∧ ∀ i (hi : i < l.length), ∃ b off, oa = some ⟨b, off, none⟩ ∧ b < w.heap.size ∧ w.cell? ⟨b, off + i * 2, none⟩ = some (.int .i64 l[i].1) ∧ w.cell? ⟨b, off + i * 2 + 1, none⟩ = some (.string (B l[i].2)) := by
  rcases h with ⟨a, cap, rfl, rfl⟩ | ⟨b, off, cap, rfl, h2, h3⟩
  · exact ⟨a, cap, rfl, fun i hi => by simp at hi⟩
  · exact ⟨_, _, rfl, fun i hi => ⟨b, off, rfl, h2, h3 i hi⟩⟩
def intW (l : List (Nat × Txt)) : List (Int × Txt) := l.map fun p => (((p.1 : Nat) : Int), p.2)
theorem intW_length (l : List (Nat × Txt)) : (intW l).length = l.length := by simp [intW]
theorem own_wrs {w : World} {base : Nat} {v : Value} {l : List (Nat × Txt)} (h : w.ownsRow base 47 2 v l.length (wrCells l)) : Wrs w v (intW l) := by
  by_cases h0 : 0 < l.length
  · obtain ⟨g, cap, rfl, h1, h2⟩ := own_wr h h0
    refine .inr ⟨g, 0, cap, by rw [intW_length], h1, fun i hi => ?_⟩
    rw [intW_length] at hi
    have := h2 i hi
    rw [Nat.zero_add]
    simpa [intW] using this
  · have hl : l = [] := List.eq_nil_of_length_eq_zero (by omega)
    subst hl
    rcases h.2 with ⟨rfl, _⟩ | ⟨g, cap, cur, rfl, _⟩
    · exact .inl ⟨none, 0, rfl, rfl⟩
    · exact .inl ⟨_, _, rfl, rfl⟩
/-- A row that a call owns is one of a lower base too. -/
theorem own_base {w : World} {base base' : Nat} {e : TypeId} {size : Nat} {v : Value} {n : Nat} {xs : List Value} (h : w.ownsRow base e size v n xs) (hb : base' ≤ base) : w.ownsRow base' e size v n xs := by
  refine ⟨h.1, ?_⟩
  rcases h.2 with hn | ⟨g, cap, cur, h1, h2, h3⟩
  · exact .inl hn
  · exact .inr ⟨g, cap, cur, h1, Nat.le_trans hb h2, h3⟩
theorem own_form {w : World} {base : Nat} {e : TypeId} {size : Nat} {v : Value} {n : Nat} {xs : List Value} (h : w.ownsRow base e size v n xs) : ∃ a c, v = .slice a n c := by
  rcases h.2 with ⟨rfl, h0⟩ | ⟨g, cap, cur, rfl, _⟩
  · exact ⟨none, 0, by rw [h0]⟩
  · exact ⟨_, _, rfl⟩
/-- A call's own row of numbers. -/
def numCells (l : List Nat) : List Value := l.map fun n => .int .i64 (n : Nat)
theorem numCells_length (l : List Nat) : (numCells l).length = l.length := by simp [numCells]
theorem own_num {w : World} {base : Nat} {v : Value} {l : List Nat} (h : w.ownsRow base 3 1 v l.length (numCells l)) : ∃ oa c, v = .slice oa l.length c ∧ ∀ i (hi : i < l.length), ∃ b, oa = some ⟨b, 0, none⟩ ∧ base ≤ b ∧ b < w.heap.size ∧ w.cell? ⟨b, i, none⟩ = some (.int .i64 (l[i] : Nat)) := by
  rcases h.2 with ⟨rfl, h0⟩ | ⟨g, cap, cur, rfl, hg, hh, h1, h2, h3, h4⟩
  · exact ⟨none, 0, by rw [h0], fun i hi => by omega⟩
  · refine ⟨_, _, rfl, fun i hi => ⟨g, rfl, hg, (h.lt g rfl).2, ?_⟩⟩
    rw [Lib.cell_of_heap hh]
    have : cur.toList[i]? = (numCells l)[i]? := by rw [← h4, List.getElem?_take, Nat.mul_one, if_pos hi]
    rw [← Array.getElem?_toList, this]
    simp [numCells, hi]
theorem below_grown {K : Nat} {W w w' : World} {v : Value} {e size n : Nat} {xs : List Value} (hb : Below K W w) (hown : w.ownsRow K e size v n xs) (hg : w.grownBy w' v.ownBlock) (hk : K ≤ w.heap.size) : Below K W w' := hb.grown hg hk (fun k hk => (hown.lt k hk).1)
end Go.Proofs.YtlgfjoicdbjfjaaDoor
