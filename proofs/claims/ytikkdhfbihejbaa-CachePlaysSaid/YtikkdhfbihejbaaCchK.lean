/- Chapter 6's arguments: acts, read as lists. No conditions. -/
import Derived.Test.YtikkdhfbihejbaaCchJ
import Derived.Deep.Slices
import Derived.Deep.Grids
import Derived.Deep.Fields
import Derived.OpenShut
import Derived.ChangeArms
namespace Go.Proofs.Ytikkdhfbihejbaa
open Go.RowKit Go.Cch Go.ChangeShapes Go.WideShapes Go.Deep

/-- An act in memory, at cell o of block b. -/
def ActAt6 (w : World) (b o : Nat) (a : Cch.Act) : Prop := w.cell? ⟨b, o, none⟩ = some (.int .i64 a.op) ∧ w.cell? ⟨b, o + 1, none⟩ = some (.int .i64 a.pos) ∧ w.cell? ⟨b, o + 2, none⟩ = some (.int .u8 ((a.byte.toNat : Nat) : Int)) ∧ w.cell? ⟨b, o + 3, none⟩ = some (.bool a.bad)
/-- A slice of acts. -/
def Acts6 (w : World) (v : Value) (l : List Cch.Act) : Prop := (∃ a cap, v = .slice a 0 cap ∧ l = []) ∨ ∃ b off cap, v = .slice (some ⟨b, off, none⟩) l.length cap ∧ b < w.heap.size ∧ ∀ i (h : i < l.length), ActAt6 w b (off + i * 4) l[i]
def Fit6 (a : Cch.Act) : Prop := keyI a.op ∧ keyI a.pos
theorem Acts6.form {w : World} {v : Value} {l : List Cch.Act} (h : Acts6 w v l) : ∃ oa c, v = .slice oa l.length c := by
  rcases h with ⟨a, cap, rfl, h⟩ | ⟨b, off, cap, rfl, _⟩
  · exact ⟨a, cap, by rw [h]; rfl⟩
  · exact ⟨_, _, rfl⟩
theorem Acts6.below {w w' : World} {v : Value} {l : List Cch.Act} (h : Acts6 w v l) (hb : Below w.heap.size w w') : Acts6 w' v l := by
  rcases h with h | ⟨b, off, cap, h1, h2, h3⟩
  · exact .inl h
  · refine .inr ⟨b, off, cap, h1, Nat.lt_of_lt_of_le h2 hb.size, fun i hi => ?_⟩
    obtain ⟨k0, k1, k2, k3⟩ := h3 i hi
    exact ⟨cell_call hb k0, cell_call hb k1, cell_call hb k2, cell_call hb k3⟩
theorem Acts6.at {w : World} {oa : Option Addr} {c : Nat} {l : List Cch.Act} (h : Acts6 w (.slice oa l.length c) l) {k : Nat} (hk : k < l.length) : ∃ b off, oa = some ⟨b, off, none⟩ ∧ ActAt6 w b (off + k * 4) l[k] := by
  rcases h with ⟨a, cap, _, h⟩ | ⟨b, off, cap, h1, _, h3⟩
  · subst h; simp at hk
  · simp only [Value.slice.injEq] at h1
    exact ⟨b, off, h1.1, h3 k hk⟩
section
variable {H : Type} {enc : TypeId × Value → H} {P : Program} {w : World} {base : Nat} {held : Bool}
theorem act6_of_cells {e : TypeId} {f0 f1 f2 f3 : Field} {fuel : Nat} {c0 c1 c2 c3 : Value} {x : DataW H × List MemPlace}
    (he : P.underlying e = some (.struct #[f0, f1, f2, f3])) (hone : oneCellFields P #[f0, f1, f2, f3] = true)
    (s0 : P.underlying f0.type = some (.int .i64)) (s1 : P.underlying f1.type = some (.int .i64)) (s2 : P.underlying f2.type = some (.int .u8)) (s3 : P.underlying f3.type = some .bool)
    (h : DataW.trod enc P w base (fun _ => true) held fuel e [c0, c1, c2, c3] = some x) :
    ∃ a : Cch.Act, c0 = .int .i64 a.op ∧ c1 = .int .i64 a.pos ∧ c2 = .int .u8 ((a.byte.toNat : Nat) : Int) ∧ c3 = .bool a.bad ∧ Fit6 a := by
  obtain ⟨xs, n, _, _, _, hlen, hg⟩ := DataW.trod_struct he h
  obtain ⟨o0, k0⟩ := hone_of hone 0 f0 rfl
  obtain ⟨o1, k1⟩ := hone_of hone 1 f1 rfl
  obtain ⟨o2, k2⟩ := hone_of hone 2 f2 rfl
  obtain ⟨o3, k3⟩ := hone_of hone 3 f3 rfl
  match xs, hlen with
  | [y0, y1, y2, y3], _ =>
    have g0 : DataW.trod enc P w base (fun _ => true) held n f0.type [c0] = some y0 := by simpa [o0, k0] using hg 0 f0 rfl
    have g1 : DataW.trod enc P w base (fun _ => true) held n f1.type [c1] = some y1 := by simpa [o1, k1] using hg 1 f1 rfl
    have g2 : DataW.trod enc P w base (fun _ => true) held n f2.type [c2] = some y2 := by simpa [o2, k2] using hg 2 f2 rfl
    have g3 : DataW.trod enc P w base (fun _ => true) held n f3.type [c3] = some y3 := by simpa [o3, k3] using hg 3 f3 rfl
    obtain ⟨z0, e0, _, b0⟩ := DataW.trod_int s0 g0
    obtain ⟨z1, e1, _, b1⟩ := DataW.trod_int s1 g1
    obtain ⟨z2, e2, _, b2⟩ := DataW.trod_int s2 g2
    obtain ⟨z3, e3, _⟩ := DataW.trod_bool s3 g3
    simp only [List.cons.injEq, and_true] at e0 e1 e2 e3
    have hz : 0 ≤ z2 ∧ z2 < 256 := by
      simp [Lit.wf, IntKind.min, IntKind.max, IntKind.signed, IntKind.bits] at b2
      omega
    refine ⟨⟨z0, z1, z2.toNat.toUInt8, z3⟩, e0, e1, ?_, e3, b0, b1⟩
    rw [e2]
    congr 1
    simp
    omega
theorem open_acts6 {t e : TypeId} {f0 f1 f2 f3 : Field} {fuel : Nat} {oa : Option Addr} {len cap : Nat} {x : DataW H × List MemPlace}
    (ht : P.underlying t = some (.slice e)) (he : P.underlying e = some (.struct #[f0, f1, f2, f3])) (hone : oneCellFields P #[f0, f1, f2, f3] = true) (hC : P.cellsOf e = 4)
    (s0 : P.underlying f0.type = some (.int .i64)) (s1 : P.underlying f1.type = some (.int .i64)) (s2 : P.underlying f2.type = some (.int .u8)) (s3 : P.underlying f3.type = some .bool)
    (h : DataW.trod enc P w base (fun _ => true) held fuel t [.slice oa len cap] = some x) :
    ∃ l : List Cch.Act, Acts6 w (.slice oa len cap) l ∧ (∀ a ∈ l, Fit6 a) ∧ l.length ≤ maxLen := by
  rcases open_slice ht h with ⟨hcs, _⟩ | ⟨a, l, c, m, n, D, Pl, hcs, _, hl, hm, hmm, _, hi⟩
  · simp only [List.cons.injEq, Value.slice.injEq, and_true] at hcs
    obtain ⟨rfl, rfl, rfl⟩ := hcs
    exact ⟨[], .inl ⟨none, 0, rfl, rfl⟩, by simp, by simp⟩
  · simp only [List.cons.injEq, Value.slice.injEq, and_true] at hcs
    obtain ⟨rfl, rfl, rfl⟩ := hcs
    simp only [if_true] at hmm
    subst hmm
    have each : ∀ i, ∃ q : Cch.Act, i < len → (w.cell? (a.add (i * 4)) = some (.int .i64 q.op) ∧ w.cell? (a.add (i * 4 + 1)) = some (.int .i64 q.pos) ∧ w.cell? (a.add (i * 4 + 2)) = some (.int .u8 ((q.byte.toNat : Nat) : Int)) ∧ w.cell? (a.add (i * 4 + 3)) = some (.bool q.bad)) ∧ Fit6 q := by
      intro i
      by_cases hil : i < len
      · obtain ⟨cs', hc, ht'⟩ := hi i (by omega)
        rw [hC] at hc
        obtain ⟨_, hcl, hat⟩ := World.cells?_some hc
        match cs', hcl with
        | [c0, c1, c2, c3], _ =>
          obtain ⟨q, e0, e1, e2, e3, hf⟩ := act6_of_cells he hone s0 s1 s2 s3 ht'
          have k0 := hat 0 (by omega)
          have k1 := hat 1 (by omega)
          have k2 := hat 2 (by omega)
          have k3 := hat 3 (by omega)
          rw [Go.Deep.add_add] at k0 k1 k2 k3
          exact ⟨q, fun _ => ⟨⟨by rw [← e0]; exact k0, by rw [← e1]; exact k1, by rw [← e2]; exact k2, by rw [← e3]; exact k3⟩, hf⟩⟩
      · exact ⟨⟨0, 0, 0, false⟩, fun h => absurd h hil⟩
    obtain ⟨f, hf⟩ := Classical.axiomOfChoice each
    refine ⟨(List.range len).map f, ?_, ?_, by simp; omega⟩
    · by_cases h0 : len = 0
      · subst h0
        exact .inl ⟨some a, _, rfl, rfl⟩
      · obtain ⟨b, off, spot⟩ := a
        obtain ⟨⟨h1, _⟩, _⟩ := hf 0 (by omega)
        have hs : spot = none := by
          have := World.cell?_spot h1
          simpa [Addr.add] using this
        subst hs
        have e1 : ∀ k, (⟨b, off, none⟩ : Addr).add k = ⟨b, off + k, none⟩ := fun k => by unfold Addr.add; split <;> simp_all
        rw [e1] at h1
        refine .inr ⟨b, off, _, by simp; rfl, lt_of_cell h1, fun i hi' => ?_⟩
        have hil : i < len := by simpa using hi'
        obtain ⟨⟨k0, k1, k2, k3⟩, _⟩ := hf i hil
        rw [e1] at k0 k1 k2 k3
        simp only [List.getElem_map, List.getElem_range]
        exact ⟨k0, k1, k2, k3⟩
    · intro q hq
      obtain ⟨i, hi', rfl⟩ := List.mem_map.1 hq
      exact (hf i (List.mem_range.1 hi')).2
end
end Go.Proofs.Ytikkdhfbihejbaa
