/- Chapter 11: codexref11.Terms. Condition: the text is at most 10^6 bytes. -/
import Derived.Test.YtlfhgmclnapmjaaGreatDoorTokC
import Derived.Test.YtlfhgmclnapmjaaGreatDoorTokSet
import Derived.Test.YtlfhgmclnapmjaaGreatDoorStepAny
import Derived.Sort.Walk0
namespace Go.Proofs.YtlfhgmclnapmjaaGreatDoor
open Go.RowKit Go.Utf Go.Lib
attribute [local go_sem] Oper.semAt_some

def SetOf (o xs : List Tx) : Prop := o.Pairwise (· < ·) ∧ (∀ x, x ∈ o ↔ x ∈ xs) ∧ o.length ≤ xs.length
theorem SetOf.nil : SetOf [] [] := ⟨List.Pairwise.nil, fun _ => Iff.rfl, Nat.le_refl _⟩
theorem insT_length (o : List Tx) (k : Nat) (t : Tx) : (insT o k t).length ≤ o.length + 1 := by
  unfold insT
  split
  · rw [List.length_append, List.length_take, List.length_cons, List.length_drop]; omega
  · omega
theorem SetOf.next {o xs : List Tx} {k : Nat} {t : Tx} (h : SetOf o xs) (hk : AtT o k t) : SetOf (insT o k t) (xs ++ [t]) := by
  obtain ⟨h1, h2⟩ := insT_ok h.1 hk
  refine ⟨h1, fun x => ?_, ?_⟩
  · rw [h2, h.2.1]; simp
  · have := insT_length o k t
    have := h.2.2
    rw [List.length_append, List.length_singleton]; omega
def LtUp (o : List Tx) (k : Nat) (t : Tx) : Prop := ∀ j (h : j < o.length), j < k → o[j] < t
/-- A part of a row of texts, read later. -/
theorem own_take_news {w : World} {base g cap : Nat} {o : List Tx} (h : w.ownsRow base 9 1 (.slice (some ⟨g, 0, none⟩) o.length cap) o.length (txtCells o)) (j : Nat) :
    ∀ W', Below w.heap.size w W' → ∀ ad, some (⟨g, 0, none⟩ : Addr) = some ad → ∀ i u, (txtCells (o.take j))[i]? = some u → W'.cell? (ad.add i) = some u := by
  rintro W' hb ad e i u hu
  cases e
  have hg := (h.lt g rfl).2
  have e1 : (⟨g, 0, none⟩ : Addr).add i = ⟨g, i, none⟩ := by unfold Addr.add; split <;> simp_all
  rw [e1]
  refine cell_below hb hg ?_
  have := h.cells (g := g) rfl i u (by
    rw [txtCells, List.map_take] at hu
    rw [List.getElem?_take] at hu
    split at hu
    · exact hu
    · cases hu)
  rwa [e1] at this
theorem own_drop_news {w : World} {base g cap : Nat} {o : List Tx} (h : w.ownsRow base 9 1 (.slice (some ⟨g, 0, none⟩) o.length cap) o.length (txtCells o)) (j : Nat) :
    ∀ W', Below w.heap.size w W' → ∀ ad, some (⟨g, j, none⟩ : Addr) = some ad → ∀ i u, (txtCells (o.drop j))[i]? = some u → W'.cell? (ad.add i) = some u := by
  rintro W' hb ad e i u hu
  cases e
  have hg := (h.lt g rfl).2
  have e1 : (⟨g, j, none⟩ : Addr).add i = ⟨g, j + i, none⟩ := by unfold Addr.add; split <;> simp_all
  have e2 : (⟨g, 0, none⟩ : Addr).add (j + i) = ⟨g, j + i, none⟩ := by unfold Addr.add; split <;> simp_all
  rw [e1]
  refine cell_below hb hg ?_
  have := h.cells (g := g) rfl (j + i) u (by
    rw [txtCells, List.map_drop, List.getElem?_drop] at hu
    exact hu)
  rwa [e2] at this
theorem txtCells_one (l : List Tx) : ∀ u ∈ txtCells l, u.oneCell' = true := by
  intro u hu
  obtain ⟨x, _, rfl⟩ := List.mem_map.1 hu
  simp [Value.oneCell']
theorem txtCells_append (a b : List Tx) : txtCells (a ++ b) = txtCells a ++ txtCells b := by simp [txtCells]
theorem txtCells_len (l : List Tx) : (txtCells l).length = l.length * 1 := by simp [txtCells]
theorem own_cases {w : World} {base : Nat} {e : TypeId} {size n c : Nat} {oa : Option Addr} {xs : List Value} (h : w.ownsRow base e size (.slice oa n c) n xs) : (oa = none ∧ n = 0 ∧ c = 0) ∨ ∃ g, oa = some ⟨g, 0, none⟩ ∧ n ≤ c := by
  rcases h.2 with ⟨h0, h1⟩ | ⟨g, cap, cur, h0, _, _, h1, _⟩
  · simp only [Value.slice.injEq] at h0
    exact .inl ⟨h0.1, h1, h0.2.2⟩
  · simp only [Value.slice.injEq, true_and] at h0
    exact .inr ⟨g, h0.1, by omega⟩
end Go.Proofs.YtlfhgmclnapmjaaGreatDoor
