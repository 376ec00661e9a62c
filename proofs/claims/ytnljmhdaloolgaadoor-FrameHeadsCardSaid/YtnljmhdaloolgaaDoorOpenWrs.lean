/- An argument that is a slice of writes (structs of a number and a text), read as a list. No conditions. -/
import Derived.Test.YtnljmhdaloolgaaDoorTxts
import Derived.Deep.SlicePairs
import Derived.OpenShut
import Derived.ChangeArms
namespace Go.Proofs.YtnljmhdaloolgaaDoor
open Go.RowKit Go.Blk Go.ChangeShapes Go.WideShapes

theorem open_wrs {H : Type} {enc : TypeId × Value → H} {P : Program} {w : World} {base : Nat} {spare : Nat → Bool} {held : Bool} {t e : TypeId} {f0 f1 : Field} {fuel : Nat} {oa : Option Addr} {len cap : Nat} {x : DataW H × List MemPlace}
    (ht : P.underlying t = some (.slice e)) (he : P.underlying e = some (.struct #[f0, f1])) (ce : P.cellsOf e = 2) (o0 : f0.offset = 0) (o1 : f1.offset = 1) (c0 : P.cellsOf f0.type = 1) (c1 : P.cellsOf f1.type = 1)
    (s0 : P.underlying f0.type = some (.int .i64)) (s1 : P.underlying f1.type = some .string)
    (h : DataW.trod enc P w base spare held fuel t [.slice oa len cap] = some x) :
    ∃ es : List (Int × Txt), Wrs w (.slice oa len cap) es ∧ (∀ e ∈ es, (Lit.int .i64 e.1).wf = true ∧ e.2.length ≤ maxLen) ∧ es.length = len ∧ len ≤ maxLen := by
  rcases Deep.open_slice_pairs ht he ce o0 o1 c0 c1 h with ⟨hcs, _⟩ | ⟨a, l, c, m, n, V0, V1, D0, D1, P0, P1, hcs, _, hl, hm, hmm, _, hx⟩
  · simp only [List.cons.injEq, Value.slice.injEq, and_true] at hcs
    obtain ⟨rfl, rfl, rfl⟩ := hcs
    exact ⟨[], .inl ⟨none, 0, rfl, rfl⟩, by simp, rfl, by unfold maxLen; omega⟩
  · simp only [List.cons.injEq, Value.slice.injEq, and_true] at hcs
    obtain ⟨rfl, rfl, rfl⟩ := hcs
    have hlm : len ≤ m := by rw [hmm]; split <;> omega
    have each : ∀ i, ∃ q : Int × Txt, i < len → w.cell? (a.add (i * 2)) = some (.int .i64 q.1) ∧ w.cell? (a.add (i * 2 + 1)) = some (.string (B q.2)) ∧ (Lit.int .i64 q.1).wf = true ∧ q.2.length ≤ maxLen := by
      intro i
      by_cases hi : i < len
      · obtain ⟨h1, h2, h3, h4⟩ := hx i (by omega)
        obtain ⟨t0, e0, _, z0⟩ := DataW.trod_int s0 h3
        obtain ⟨t1, e1, _, z1⟩ := DataW.trod_string s1 h4
        simp only [List.cons.injEq, and_true] at e0 e1
        rw [e0] at h1
        rw [e1] at h2
        exact ⟨(t0, L t1), fun _ => ⟨h1, by rw [B_L]; exact h2, z0, by rw [length_L]; exact z1⟩⟩
      · exact ⟨(0, []), fun h => absurd h hi⟩
    obtain ⟨f, hf⟩ := Classical.axiomOfChoice each
    refine ⟨(List.range len).map f, ?_, ?_, by simp, by omega⟩
    · by_cases h0 : len = 0
      · subst h0
        exact .inl ⟨some a, cap, rfl, rfl⟩
      · obtain ⟨b, off, spot⟩ := a
        have h1 := (hf 0 (by omega)).1
        have hs : spot = none := by
          have := World.cell?_spot h1
          simpa [Addr.add] using this
        subst hs
        refine .inr ⟨b, off, cap, by simp, ?_, fun i hi => ?_⟩
        · have h2 : w.cell? ⟨b, off, none⟩ = some (.int .i64 (f 0).1) := by simpa [Addr.add] using h1
          exact lt_of_cell h2
        · have hi' : i < len := by simpa using hi
          obtain ⟨h2, h3, _⟩ := hf i hi'
          have e1 : ∀ k, (⟨b, off, none⟩ : Addr).add k = ⟨b, off + k, none⟩ := fun k => by unfold Addr.add; split <;> simp_all
          rw [e1] at h2 h3
          simp only [List.getElem_map, List.getElem_range]
          exact ⟨h2, by rw [Nat.add_assoc]; exact h3⟩
    · intro e he
      obtain ⟨i, hi, rfl⟩ := List.mem_map.1 he
      have := hf i (List.mem_range.1 hi)
      exact ⟨this.2.2.1, this.2.2.2⟩
end Go.Proofs.YtnljmhdaloolgaaDoor
