/- Rows of elements of several cells, as a call owns them: writes, blocks. No conditions. -/
import Derived.Test.YtikkdhfbihejbaaCchPlain
import Derived.Test.YtikkdhfbihejbaaCchMem
import Derived.Test.YtikkdhfbihejbaaAppendWhere
namespace Go.Proofs.Ytikkdhfbihejbaa
open Go.RowKit Go.Cch

theorem flat_get {α : Type} {f : α → List Value} {s : Nat} (hf : ∀ x, (f x).length = s) (l : List α) (i : Nat) (hi : i < l.length) (j : Nat) (hj : j < s) : (l.flatMap f)[i * s + j]? = (f l[i])[j]? := by
  induction l generalizing i with
  | nil => simp at hi
  | cons x l ih =>
    rw [List.flatMap_cons]
    cases i with
    | zero => rw [Nat.zero_mul, Nat.zero_add, List.getElem?_append_left (by rw [hf]; exact hj)]; rfl
    | succ i =>
      rw [List.getElem?_append_right (by rw [hf, Nat.add_mul]; omega), hf, show (i + 1) * s + j - s = i * s + j by rw [Nat.add_mul]; omega, ih i (by simpa using hi)]
      rfl
theorem flat_len {α : Type} {f : α → List Value} {s : Nat} (hf : ∀ x, (f x).length = s) (l : List α) : (l.flatMap f).length = l.length * s := by
  induction l with
  | nil => simp
  | cons x l ih => rw [List.flatMap_cons, List.length_append, hf, ih, List.length_cons, Nat.add_mul]; omega
/-- A row of the elements l, each of s cells. -/
def FRow {α : Type} (f : α → List Value) (s : Nat) (w : World) (v : Value) (l : List α) : Prop :=
  ∃ oa c, v = .slice oa l.length c ∧ l.length ≤ c ∧ (oa = none → c = 0) ∧ ∀ ad, oa = some ad → ∃ b off, ad = ⟨b, off, none⟩ ∧ b < w.heap.size ∧ ∀ i (hi : i < l.length) j u, (f l[i])[j]? = some u → w.cell? ⟨b, off + (i * s + j), none⟩ = some u
theorem own_frow {α : Type} {f : α → List Value} {s : Nat} (hf : ∀ x, (f x).length = s) {w : World} {base : Nat} {e : TypeId} {v : Value} {l : List α} (h : w.ownsRow base e s v l.length (l.flatMap f)) : FRow f s w v l := by
  rcases h.2 with ⟨rfl, h0⟩ | ⟨g, cap, cur, rfl, hg, hh, h1, h2, h3, h4⟩
  · exact ⟨none, 0, by rw [h0], by omega, fun _ => rfl, fun ad e => by cases e⟩
  · refine ⟨some ⟨g, 0, none⟩, cap, rfl, h1, fun e => (by cases e), fun ad e => ?_⟩
    cases e
    refine ⟨g, 0, rfl, (h.lt g rfl).2, fun i hi j u hu => ?_⟩
    have hj : j < s := by
      have := (List.getElem?_eq_some_iff.1 hu).1
      rwa [hf] at this
    have hlt : i * s + j < l.length * s := by
      have : i * s + s ≤ l.length * s := by rw [← Nat.succ_mul]; exact Nat.mul_le_mul_right _ hi
      omega
    rw [Lib.cell_of_heap hh, Nat.zero_add]
    have : cur.toList[i * s + j]? = (l.flatMap f)[i * s + j]? := by rw [← h4, List.getElem?_take, if_pos hlt]
    rw [← Array.getElem?_toList, this, flat_get hf l i hi j hj]
    exact hu
theorem FRow.at {α : Type} {f : α → List Value} {s : Nat} {w : World} {oa : Option Addr} {n c : Nat} {l : List α} (h : FRow f s w (.slice oa n c) l) {i : Nat} (hi : i < l.length) : ∃ b off, oa = some ⟨b, off, none⟩ ∧ b < w.heap.size ∧ ∀ j u, (f l[i])[j]? = some u → w.cell? ⟨b, off + (i * s + j), none⟩ = some u := by
  obtain ⟨oa', c', h1, h2, h3, h4⟩ := h
  simp only [Value.slice.injEq] at h1
  obtain ⟨rfl, rfl, rfl⟩ := h1
  cases oa with
  | none => have := h3 rfl; omega
  | some ad =>
    obtain ⟨b, off, rfl, hb, hc⟩ := h4 ad rfl
    exact ⟨b, off, rfl, hb, hc i hi⟩
theorem FRow.form {α : Type} {f : α → List Value} {s : Nat} {w : World} {v : Value} {l : List α} (h : FRow f s w v l) : ∃ oa c, v = .slice oa l.length c ∧ l.length ≤ c ∧ (oa = none → c = 0) := by
  obtain ⟨oa, c, h1, h2, h3, h4⟩ := h
  exact ⟨oa, c, h1, h2, h3⟩
theorem FRow.below {α : Type} {f : α → List Value} {s : Nat} {w w' : World} {v : Value} {l : List α} (h : FRow f s w v l) (b : Below w.heap.size w w') : FRow f s w' v l := by
  obtain ⟨oa, c, h1, h2, h3, h4⟩ := h
  refine ⟨oa, c, h1, h2, h3, fun ad e => ?_⟩
  obtain ⟨g, off, rfl, hg, hc⟩ := h4 ad e
  exact ⟨g, off, rfl, Nat.lt_of_lt_of_le hg b.size, fun i hi j u hu => cell_call b (hc i hi j u hu)⟩
theorem FRow.keep {α : Type} {f : α → List Value} {s : Nat} {w w' : World} {v : Value} {l : List α} (h : FRow f s w v l) (hs : w.heap.size ≤ w'.heap.size) (hk : ∀ k, v.ownBlock = some k → w'.heap[k]? = w.heap[k]?) : FRow f s w' v l := by
  obtain ⟨oa, c, rfl, h2, h3, h4⟩ := h
  refine ⟨oa, c, rfl, h2, h3, fun ad e => ?_⟩
  obtain ⟨g, off, rfl, hg, hc⟩ := h4 ad e
  subst e
  exact ⟨g, off, rfl, Nat.lt_of_lt_of_le hg hs, fun i hi j u hu => (World.cell?_of_block (a := ⟨g, off + (i * s + j), none⟩) (hk g rfl)).trans (hc i hi j u hu)⟩
theorem FRow.nil {α : Type} (f : α → List Value) (s : Nat) (w : World) : FRow f s w (.slice none 0 0) [] := ⟨none, 0, rfl, Nat.le_refl _, fun _ => rfl, fun _ e => by cases e⟩
theorem own_below {w w' : World} {base : Nat} {e : TypeId} {size : Nat} {v : Value} {n : Nat} {xs : List Value} (h : w.ownsRow base e size v n xs) (b : Below w.heap.size w w') : w'.ownsRow base e size v n xs := by
  refine ⟨h.1, ?_⟩
  rcases h.2 with hn | ⟨g, cap, cur, rfl, hb, hg, h3⟩
  · exact .inl hn
  · exact .inr ⟨g, cap, cur, rfl, hb, (b.block g (h.lt g rfl).2).trans hg, h3⟩
theorem own_base {w : World} {base base' : Nat} {e : TypeId} {size : Nat} {v : Value} {n : Nat} {xs : List Value} (h : w.ownsRow base e size v n xs) (hb : base' ≤ base) : w.ownsRow base' e size v n xs := by
  refine ⟨h.1, ?_⟩
  rcases h.2 with hn | ⟨g, cap, cur, h1, h2, h3⟩
  · exact .inl hn
  · exact .inr ⟨g, cap, cur, h1, Nat.le_trans hb h2, h3⟩
theorem own_form {w : World} {base : Nat} {e : TypeId} {size : Nat} {v : Value} {n : Nat} {xs : List Value} (h : w.ownsRow base e size v n xs) : ∃ a c, v = .slice a n c := by
  rcases h.2 with ⟨rfl, h0⟩ | ⟨g, cap, cur, rfl, _⟩
  · exact ⟨none, 0, by rw [h0]⟩
  · exact ⟨_, _, rfl⟩
/-- A new block of cells holds them. -/
theorem cells_new (w : World) (b : Nat) (hb : b = w.heap.size) (l : List Value) (t : TypeId) : ∀ (j : Nat) u, l[j]? = some u → (w.alloc (.cells l.toArray t)).cell? ((⟨b, 0, none⟩ : Addr).add j) = some u := by
  subst hb
  intro j u hu
  have e1 : (⟨w.heap.size, 0, none⟩ : Addr).add j = ⟨w.heap.size, j, none⟩ := by unfold Addr.add; split <;> simp_all
  rw [e1, Lib.cell_of_heap (heap_alloc_new w (.cells l.toArray t))]
  simpa using hu
/-- A write: a block's number, its text. -/
abbrev Wr := Int × Tx
def wrC (p : Wr) : List Value := [.int .i64 p.1, .string (B p.2)]
theorem wrC_len (p : Wr) : (wrC p).length = 2 := rfl
abbrev wrCells (l : List Wr) : List Value := l.flatMap wrC
abbrev WrRow := FRow wrC 2
def wrOf (x : Kd) : Wr := (x.pos, x.data)
theorem wr_one (l : List Wr) : ∀ u ∈ wrCells l, u.oneCell' = true := by
  intro u hu
  obtain ⟨p, _, h⟩ := List.mem_flatMap.1 hu
  simp only [wrC, List.mem_cons, List.not_mem_nil, or_false] at h
  rcases h with rfl | rfl <;> rfl
theorem Try.info_wr6 : (Try.prog.info? 59).map (fun i => (i.zero, i.size, i.bytes)) = some (some (.agg #[.int .i64 0, .string ⟨#[]⟩]), 2, 24) := by kernel_rfl
/-- A block that is kept, as the document's answer has it. -/
def kdC (x : Kd) : List Value := [.int .i64 x.pos, .string (B x.data), .bool x.dirty, .int .i64 (x.pins : Nat)]
theorem kdC_len (x : Kd) : (kdC x).length = 4 := rfl
abbrev kdCells (l : List Kd) : List Value := l.flatMap kdC
abbrev KdRow := FRow kdC 4
theorem kd_one (l : List Kd) : ∀ u ∈ kdCells l, u.oneCell' = true := by
  intro u hu
  obtain ⟨p, _, h⟩ := List.mem_flatMap.1 hu
  simp only [kdC, List.mem_cons, List.not_mem_nil, or_false] at h
  rcases h with rfl | rfl | rfl | rfl <;> rfl
theorem Try.info_kd6 : (Try.prog.info? 57).map (fun i => (i.zero, i.size, i.bytes)) = some (some (.agg #[.int .i64 0, .string ⟨#[]⟩, .bool false, .int .i64 0]), 4, 40) := by kernel_rfl
end Go.Proofs.Ytikkdhfbihejbaa
