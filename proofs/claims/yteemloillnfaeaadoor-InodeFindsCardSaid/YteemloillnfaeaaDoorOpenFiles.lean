/- An argument that is a slice of files (structs of a text, a flag, a number and a slice of extents), read as a list. No conditions. -/
import Derived.Test.YteemloillnfaeaaDoorInoMem
import Derived.Deep.Slices
import Derived.Deep.SlicePairs
import Derived.Deep.Fields
import Derived.OpenShut
import Derived.ChangeArms
namespace Go.Proofs.YteemloillnfaeaaDoor
open Go.RowKit Go.Ino Go.ChangeShapes Go.WideShapes Go.Deep

section
variable {H : Type} {enc : TypeId × Value → H} {P : Program} {w : World} {base : Nat} {held : Bool}
theorem wf_bounds {z : Int} (hc : (Lit.int .i64 z).wf = true) : -9223372036854775808 ≤ z ∧ z ≤ 9223372036854775807 := by
  simp [Lit.wf, IntKind.min, IntKind.max, IntKind.signed, IntKind.bits] at hc
  omega
theorem open_exts {t e : TypeId} {f0 f1 : Field} {fuel : Nat} {c : Value} {x : DataW H × List MemPlace}
    (ht : P.underlying t = some (.slice e)) (he : P.underlying e = some (.struct #[f0, f1])) (ce : P.cellsOf e = 2) (o0 : f0.offset = 0) (o1 : f1.offset = 1) (c0 : P.cellsOf f0.type = 1) (c1 : P.cellsOf f1.type = 1)
    (s0 : P.underlying f0.type = some (.int .i64)) (s1 : P.underlying f1.type = some (.int .i64))
    (h : DataW.trod enc P w base (fun _ => true) held fuel t [c] = some x) :
    ∃ xs : List Ext, Exts w c xs ∧ xs.length ≤ maxLen ∧ ∀ x ∈ xs, -9223372036854775808 ≤ x.1 ∧ x.1 ≤ 9223372036854775807 ∧ -9223372036854775808 ≤ x.2 ∧ x.2 ≤ 9223372036854775807 := by
  rcases Deep.open_slice_pairs ht he ce o0 o1 c0 c1 h with ⟨hcs, _⟩ | ⟨a, l, cap, m, n, V0, V1, D0, D1, P0, P1, hcs, _, hl, hm, hmm, _, hx⟩
  · simp only [List.cons.injEq, and_true] at hcs
    subst hcs
    exact ⟨[], Exts.nil w, by simp, by simp⟩
  · simp only [List.cons.injEq, and_true] at hcs
    subst hcs
    have hlm : l ≤ m := by rw [hmm]; split <;> omega
    have each : ∀ i, ∃ q : Ext, i < l → w.cell? (a.add (i * 2)) = some (.int .i64 q.1) ∧ w.cell? (a.add (i * 2 + 1)) = some (.int .i64 q.2) ∧ -9223372036854775808 ≤ q.1 ∧ q.1 ≤ 9223372036854775807 ∧ -9223372036854775808 ≤ q.2 ∧ q.2 ≤ 9223372036854775807 := by
      intro i
      by_cases hi : i < l
      · obtain ⟨h1, h2, h3, h4⟩ := hx i (by omega)
        obtain ⟨t0, e0, _, z0⟩ := DataW.trod_int s0 h3
        obtain ⟨t1, e1, _, z1⟩ := DataW.trod_int s1 h4
        simp only [List.cons.injEq, and_true] at e0 e1
        rw [e0] at h1
        rw [e1] at h2
        exact ⟨(t0, t1), fun _ => ⟨h1, h2, (wf_bounds z0).1, (wf_bounds z0).2, (wf_bounds z1).1, (wf_bounds z1).2⟩⟩
      · exact ⟨(0, 0), fun h => absurd h hi⟩
    obtain ⟨f, hf⟩ := Classical.axiomOfChoice each
    refine ⟨(List.range l).map f, ⟨some a, cap, by simp, fun h => (by cases h), fun i hi => ?_⟩, by simp; omega, ?_⟩
    · have hil : i < l := by simpa using hi
      obtain ⟨b, off, spot⟩ := a
      have hs : spot = none := by
        have := World.cell?_spot (hf 0 (by omega)).1
        simpa [Addr.add] using this
      subst hs
      obtain ⟨h1, h2, _⟩ := hf i hil
      have e1 : ∀ k, (⟨b, off, none⟩ : Addr).add k = ⟨b, off + k, none⟩ := fun k => by unfold Addr.add; split <;> simp_all
      rw [e1] at h1 h2
      simp only [List.getElem_map, List.getElem_range]
      exact ⟨b, off, rfl, lt_of_cell h1, h1, by rw [Nat.add_assoc]; exact h2⟩
    · intro e he
      obtain ⟨i, hi, rfl⟩ := List.mem_map.1 he
      exact (hf i (List.mem_range.1 hi)).2.2
theorem file_of_cells {e te ee : TypeId} {f0 f1 f2 f3 g0 g1 : Field} {fuel : Nat} {c0 c1 c2 c3 : Value} {x : DataW H × List MemPlace}
    (he : P.underlying e = some (.struct #[f0, f1, f2, f3])) (hone : oneCellFields P #[f0, f1, f2, f3] = true)
    (s0 : P.underlying f0.type = some .string) (s1 : P.underlying f1.type = some .bool) (s2 : P.underlying f2.type = some (.int .i64)) (s3 : P.underlying f3.type = some (.slice ee))
    (hee : P.underlying ee = some (.struct #[g0, g1])) (cee : P.cellsOf ee = 2) (p0 : g0.offset = 0) (p1 : g1.offset = 1) (q0 : P.cellsOf g0.type = 1) (q1 : P.cellsOf g1.type = 1) (u0 : P.underlying g0.type = some (.int .i64)) (u1 : P.underlying g1.type = some (.int .i64))
    (h : DataW.trod enc P w base (fun _ => true) held fuel e [c0, c1, c2, c3] = some x) (_ : te = te) :
    ∃ f : Fil, FilV w [c0, c1, c2, c3] f ∧ FitF f := by
  obtain ⟨xs, n, _, _, _, hlen, hg⟩ := DataW.trod_struct he h
  obtain ⟨o0, k0⟩ := hone_of hone 0 f0 rfl
  obtain ⟨o1, k1⟩ := hone_of hone 1 f1 rfl
  obtain ⟨o2, k2⟩ := hone_of hone 2 f2 rfl
  obtain ⟨o3, k3⟩ := hone_of hone 3 f3 rfl
  match xs, hlen with
  | [y0, y1, y2, y3], _ =>
    have g0' : DataW.trod enc P w base (fun _ => true) held n f0.type [c0] = some y0 := by simpa [o0, k0] using hg 0 f0 rfl
    have g1' : DataW.trod enc P w base (fun _ => true) held n f1.type [c1] = some y1 := by simpa [o1, k1] using hg 1 f1 rfl
    have g2' : DataW.trod enc P w base (fun _ => true) held n f2.type [c2] = some y2 := by simpa [o2, k2] using hg 2 f2 rfl
    have g3' : DataW.trod enc P w base (fun _ => true) held n f3.type [c3] = some y3 := by simpa [o3, k3] using hg 3 f3 rfl
    obtain ⟨t0, e0, _, l0⟩ := DataW.trod_string s0 g0'
    obtain ⟨t1, e1, _⟩ := DataW.trod_bool s1 g1'
    obtain ⟨t2, e2, _, b2⟩ := DataW.trod_int s2 g2'
    obtain ⟨es, r3, l3, b3⟩ := open_exts s3 hee cee p0 p1 q0 q1 u0 u1 g3'
    simp only [List.cons.injEq, and_true] at e0 e1 e2
    unfold maxLen at l0 l3
    refine ⟨⟨L t0, t1, t2, es⟩, ⟨c3, by rw [e0, e1, e2, B_L], r3⟩, by rw [length_L]; omega, (wf_bounds b2).1, (wf_bounds b2).2, by show es.length ≤ _; omega, b3⟩
theorem open_files {t e : TypeId} {ee : TypeId} {f0 f1 f2 f3 g0 g1 : Field} {fuel : Nat} {oa : Option Addr} {len cap : Nat} {x : DataW H × List MemPlace}
    (ht : P.underlying t = some (.slice e)) (he : P.underlying e = some (.struct #[f0, f1, f2, f3])) (hone : oneCellFields P #[f0, f1, f2, f3] = true) (hC : P.cellsOf e = 4)
    (s0 : P.underlying f0.type = some .string) (s1 : P.underlying f1.type = some .bool) (s2 : P.underlying f2.type = some (.int .i64)) (s3 : P.underlying f3.type = some (.slice ee))
    (hee : P.underlying ee = some (.struct #[g0, g1])) (cee : P.cellsOf ee = 2) (p0 : g0.offset = 0) (p1 : g1.offset = 1) (q0 : P.cellsOf g0.type = 1) (q1 : P.cellsOf g1.type = 1) (u0 : P.underlying g0.type = some (.int .i64)) (u1 : P.underlying g1.type = some (.int .i64))
    (h : DataW.trod enc P w base (fun _ => true) held fuel t [.slice oa len cap] = some x) :
    ∃ l : List Fil, Files w (.slice oa len cap) l ∧ (∀ f ∈ l, FitF f) ∧ l.length ≤ maxLen := by
  rcases open_slice ht h with ⟨hcs, _⟩ | ⟨a, l, c, m, n, D, Pl, hcs, _, hl, hm, hmm, _, hi⟩
  · simp only [List.cons.injEq, Value.slice.injEq, and_true] at hcs
    obtain ⟨rfl, rfl, rfl⟩ := hcs
    exact ⟨[], Files.nil w, by simp, by simp⟩
  · simp only [List.cons.injEq, Value.slice.injEq, and_true] at hcs
    obtain ⟨rfl, rfl, rfl⟩ := hcs
    simp only [if_true] at hmm
    subst hmm
    have each : ∀ i, ∃ q : Fil, i < len → (∃ ve, w.cell? (a.add (i * 4)) = some (.string (B q.name)) ∧ w.cell? (a.add (i * 4 + 1)) = some (.bool q.shut) ∧ w.cell? (a.add (i * 4 + 2)) = some (.int .i64 q.size) ∧ w.cell? (a.add (i * 4 + 3)) = some ve ∧ Exts w ve q.ext) ∧ FitF q := by
      intro i
      by_cases hil : i < len
      · obtain ⟨cs', hc, ht'⟩ := hi i (by omega)
        rw [hC] at hc
        obtain ⟨_, hcl, hat⟩ := World.cells?_some hc
        match cs', hcl with
        | [c0, c1, c2, c3], _ =>
          obtain ⟨q, ⟨ve, ec, hx⟩, hf⟩ := file_of_cells (te := e) he hone s0 s1 s2 s3 hee cee p0 p1 q0 q1 u0 u1 ht' rfl
          simp only [List.cons.injEq, and_true] at ec
          obtain ⟨e0, e1, e2, e3⟩ := ec
          have k0 := hat 0 (by omega)
          have k1 := hat 1 (by omega)
          have k2 := hat 2 (by omega)
          have k3 := hat 3 (by omega)
          rw [Go.Deep.add_add] at k0 k1 k2 k3
          exact ⟨q, fun _ => ⟨⟨ve, by rw [← e0]; exact k0, by rw [← e1]; exact k1, by rw [← e2]; exact k2, by rw [← e3]; exact k3, hx⟩, hf⟩⟩
      · exact ⟨⟨[], false, 0, []⟩, fun h => absurd h hil⟩
    obtain ⟨f, hf⟩ := Classical.axiomOfChoice each
    refine ⟨(List.range len).map f, ⟨some a, _, by simp; rfl, fun h => (by cases h), fun i hi' => ?_⟩, ?_, by simp; omega⟩
    · have hil : i < len := by simpa using hi'
      obtain ⟨b, off, spot⟩ := a
      have hs : spot = none := by
        obtain ⟨⟨_, h1, _⟩, _⟩ := hf 0 (by omega)
        have := World.cell?_spot h1
        simpa [Addr.add] using this
      subst hs
      have e1 : ∀ k, (⟨b, off, none⟩ : Addr).add k = ⟨b, off + k, none⟩ := fun k => by unfold Addr.add; split <;> simp_all
      obtain ⟨⟨ve, k0, k1, k2, k3, kx⟩, _⟩ := hf i hil
      rw [e1] at k0 k1 k2 k3
      simp only [List.getElem_map, List.getElem_range]
      exact ⟨b, off, ve, rfl, lt_of_cell k0, k0, by rw [Nat.add_assoc]; exact k1, by rw [Nat.add_assoc]; exact k2, by rw [Nat.add_assoc]; exact k3, kx⟩
    · intro q hq
      obtain ⟨i, hi', rfl⟩ := List.mem_map.1 hq
      exact (hf i (List.mem_range.1 hi')).2
end
end Go.Proofs.YteemloillnfaeaaDoor
