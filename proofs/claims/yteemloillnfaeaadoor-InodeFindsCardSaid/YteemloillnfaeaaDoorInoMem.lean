/- Directories in memory: a slice of extents, a slice of files, a file by value. No conditions. -/
import Derived.Test.YteemloillnfaeaaDoorBase
import Derived.Test.YteemloillnfaeaaDoorHeld
import Derived.Test.YteemloillnfaeaaDoorInoPlain
import Derived.Deep.AppendLies
namespace Go.Proofs.YteemloillnfaeaaDoor
open Go.RowKit Go.Ino

/-- A slice of extents. -/
def Exts (w : World) (v : Value) (xs : List Ext) : Prop :=
  ∃ oa c, v = .slice oa xs.length c ∧ (oa = none → c = 0) ∧ ∀ i (h : i < xs.length), ∃ b off, oa = some ⟨b, off, none⟩ ∧ b < w.heap.size ∧ w.cell? ⟨b, off + i * 2, none⟩ = some (.int .i64 xs[i].1) ∧ w.cell? ⟨b, off + i * 2 + 1, none⟩ = some (.int .i64 xs[i].2)
theorem Exts.below {w w' : World} {v : Value} {xs : List Ext} (h : Exts w v xs) (hb : Below w.heap.size w w') : Exts w' v xs := by
  obtain ⟨oa, c, h1, h0, h2⟩ := h
  refine ⟨oa, c, h1, h0, fun i hi => ?_⟩
  obtain ⟨b, off, e, hlt, k1, k2⟩ := h2 i hi
  exact ⟨b, off, e, Nat.lt_of_lt_of_le hlt hb.size, cell_below hb hlt k1, cell_below hb hlt k2⟩
theorem Exts.nil (w : World) : Exts w (.slice none 0 0) [] := ⟨none, 0, rfl, fun _ => rfl, fun i h => by simp at h⟩
theorem Exts.form {w : World} {v : Value} {xs : List Ext} (h : Exts w v xs) : ∃ oa c, v = .slice oa xs.length c ∧ (oa = none → xs.length = 0 ∧ c = 0) := by
  obtain ⟨oa, c, h1, h0, h2⟩ := h
  refine ⟨oa, c, h1, fun e => ⟨?_, h0 e⟩⟩
  rcases Nat.eq_zero_or_pos xs.length with h3 | h3
  · exact h3
  · obtain ⟨b, off, e2, _⟩ := h2 0 h3
    rw [e] at e2; cases e2
/-- A file's four values. -/
def FilV (w : World) (vs : List Value) (f : Fil) : Prop := ∃ ve, vs = [.string (B f.name), .bool f.shut, .int .i64 f.size, ve] ∧ Exts w ve f.ext
theorem FilV.below {w w' : World} {vs : List Value} {f : Fil} (h : FilV w vs f) (hb : Below w.heap.size w w') : FilV w' vs f := by
  obtain ⟨ve, h1, h2⟩ := h
  exact ⟨ve, h1, h2.below hb⟩
/-- A slice of files. -/
def Files (w : World) (v : Value) (l : List Fil) : Prop :=
  ∃ oa c, v = .slice oa l.length c ∧ (oa = none → c = 0) ∧ ∀ i (h : i < l.length), ∃ b off ve, oa = some ⟨b, off, none⟩ ∧ b < w.heap.size ∧ w.cell? ⟨b, off + i * 4, none⟩ = some (.string (B l[i].name)) ∧ w.cell? ⟨b, off + i * 4 + 1, none⟩ = some (.bool l[i].shut) ∧
    w.cell? ⟨b, off + i * 4 + 2, none⟩ = some (.int .i64 l[i].size) ∧ w.cell? ⟨b, off + i * 4 + 3, none⟩ = some ve ∧ Exts w ve l[i].ext
theorem Files.below {w w' : World} {v : Value} {l : List Fil} (h : Files w v l) (hb : Below w.heap.size w w') : Files w' v l := by
  obtain ⟨oa, c, h1, h0, h2⟩ := h
  refine ⟨oa, c, h1, h0, fun i hi => ?_⟩
  obtain ⟨b, off, ve, e, hlt, k1, k2, k3, k4, k5⟩ := h2 i hi
  exact ⟨b, off, ve, e, Nat.lt_of_lt_of_le hlt hb.size, cell_below hb hlt k1, cell_below hb hlt k2, cell_below hb hlt k3, cell_below hb hlt k4, k5.below hb⟩
theorem Files.nil (w : World) : Files w (.slice none 0 0) [] := ⟨none, 0, rfl, fun _ => rfl, fun i h => by simp at h⟩
theorem Files.form {w : World} {v : Value} {l : List Fil} (h : Files w v l) : ∃ oa c, v = .slice oa l.length c ∧ (oa = none → l.length = 0 ∧ c = 0) := by
  obtain ⟨oa, c, h1, h0, h2⟩ := h
  refine ⟨oa, c, h1, fun e => ⟨?_, h0 e⟩⟩
  rcases Nat.eq_zero_or_pos l.length with h3 | h3
  · exact h3
  · obtain ⟨b, off, _, e2, _⟩ := h2 0 h3
    rw [e] at e2; cases e2
/-- The size of each text and number of a directory. -/
def FitF (f : Fil) : Prop := f.name.length ≤ 9223372036854775807 ∧ -9223372036854775808 ≤ f.size ∧ f.size ≤ 9223372036854775807 ∧ f.ext.length ≤ 9223372036854775807 ∧ ∀ x ∈ f.ext, -9223372036854775808 ≤ x.1 ∧ x.1 ≤ 9223372036854775807 ∧ -9223372036854775808 ≤ x.2 ∧ x.2 ≤ 9223372036854775807
end Go.Proofs.YteemloillnfaeaaDoor
