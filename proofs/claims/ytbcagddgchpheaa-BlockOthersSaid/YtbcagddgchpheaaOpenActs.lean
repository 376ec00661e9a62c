/- Arguments that are acts (structs of three numbers, flags and a text): a slice of them, and one by value, read as lists. No conditions. -/
import Derived.Test.YtbcagddgchpheaaBlkT
import Derived.Deep.Slices
import Derived.Deep.Grids
import Derived.Deep.Fields
import Derived.OpenShut
import Derived.ChangeArms
namespace Go.Proofs.Ytbcagddgchpheaa
open Go.RowKit Go.Blk Go.ChangeShapes Go.WideShapes Go.Deep

section
variable {H : Type} {enc : TypeId × Value → H} {P : Program} {w : World} {base : Nat} {held : Bool}
theorem row_bools {t e : TypeId} {fuel : Nat} {c : Value} {x : DataW H × List MemPlace} (ht : P.underlying t = some (.slice e)) (he : P.underlying e = some .bool) (hc : P.cellsOf e = 1)
    (h : DataW.trod enc P w base (fun _ => true) held fuel t [c] = some x) : ∃ l : List Bool, Row w c (l.map Value.bool) ∧ l.length ≤ maxLen := by
  rcases open_bools ht he hc h with ⟨hcs, _⟩ | ⟨a, len, cap, Bf, hcs, _, hl, hm, _, hcell⟩
  · simp only [List.cons.injEq, and_true] at hcs
    subst hcs
    exact ⟨[], .inl ⟨none, 0, rfl, rfl⟩, by simp⟩
  · simp only [List.cons.injEq, and_true] at hcs
    subst hcs
    refine ⟨(List.range len).map Bf, row_of_cells (by simp) hl (fun i hi => ?_), by simp; omega⟩
    simp at hi
    rw [hcell i (by omega)]
    simp
theorem act_of_cells {e : TypeId} {f0 f1 f2 f3 f4 : Field} {eb : TypeId} {fuel : Nat} {c0 c1 c2 c3 c4 : Value} {x : DataW H × List MemPlace}
    (he : P.underlying e = some (.struct #[f0, f1, f2, f3, f4])) (hone : oneCellFields P #[f0, f1, f2, f3, f4] = true)
    (s0 : P.underlying f0.type = some (.int .i64)) (s1 : P.underlying f1.type = some (.int .i64)) (s2 : P.underlying f2.type = some (.int .i64)) (s3 : P.underlying f3.type = some (.slice eb)) (s4 : P.underlying f4.type = some .string) (sb : P.underlying eb = some .bool) (cb : P.cellsOf eb = 1)
    (h : DataW.trod enc P w base (fun _ => true) held fuel e [c0, c1, c2, c3, c4] = some x) :
    ∃ a : Act, c0 = .int .i64 a.op ∧ c1 = .int .i64 a.pos ∧ c2 = .int .i64 a.n ∧ c4 = .string (B a.data) ∧ Row w c3 (a.keep.map Value.bool) ∧ Fit a := by
  obtain ⟨xs, n, _, _, _, hlen, hg⟩ := DataW.trod_struct he h
  obtain ⟨o0, k0⟩ := hone_of hone 0 f0 rfl
  obtain ⟨o1, k1⟩ := hone_of hone 1 f1 rfl
  obtain ⟨o2, k2⟩ := hone_of hone 2 f2 rfl
  obtain ⟨o3, k3⟩ := hone_of hone 3 f3 rfl
  obtain ⟨o4, k4⟩ := hone_of hone 4 f4 rfl
  match xs, hlen with
  | [y0, y1, y2, y3, y4], _ =>
    have g0 : DataW.trod enc P w base (fun _ => true) held n f0.type [c0] = some y0 := by simpa [o0, k0] using hg 0 f0 rfl
    have g1 : DataW.trod enc P w base (fun _ => true) held n f1.type [c1] = some y1 := by simpa [o1, k1] using hg 1 f1 rfl
    have g2 : DataW.trod enc P w base (fun _ => true) held n f2.type [c2] = some y2 := by simpa [o2, k2] using hg 2 f2 rfl
    have g3 : DataW.trod enc P w base (fun _ => true) held n f3.type [c3] = some y3 := by simpa [o3, k3] using hg 3 f3 rfl
    have g4 : DataW.trod enc P w base (fun _ => true) held n f4.type [c4] = some y4 := by simpa [o4, k4] using hg 4 f4 rfl
    obtain ⟨z0, e0, _, b0⟩ := DataW.trod_int s0 g0
    obtain ⟨z1, e1, _, b1⟩ := DataW.trod_int s1 g1
    obtain ⟨z2, e2, _, b2⟩ := DataW.trod_int s2 g2
    obtain ⟨kp, r3, l3⟩ := row_bools s3 sb cb g3
    obtain ⟨t4, e4, _, l4⟩ := DataW.trod_string s4 g4
    simp only [List.cons.injEq, and_true] at e0 e1 e2 e4
    have bd : ∀ {z : Int}, (Lit.int .i64 z).wf = true → -9223372036854775808 ≤ z ∧ z ≤ 9223372036854775807 := fun hc => by
      simp [Lit.wf, IntKind.min, IntKind.max, IntKind.signed, IntKind.bits] at hc
      omega
    refine ⟨⟨z0, z1, z2, kp, L t4⟩, e0, e1, e2, by rw [e4, B_L], r3, ?_⟩
    unfold maxLen at l3 l4
    exact ⟨(bd b0).1, (bd b0).2, (bd b1).1, (bd b1).2, (bd b2).1, (bd b2).2, by show kp.length ≤ _; omega, by show (L t4).length ≤ _; rw [length_L]; omega⟩
theorem open_acts {t e : TypeId} {f0 f1 f2 f3 f4 : Field} {eb : TypeId} {fuel : Nat} {oa : Option Addr} {len cap : Nat} {x : DataW H × List MemPlace}
    (ht : P.underlying t = some (.slice e)) (he : P.underlying e = some (.struct #[f0, f1, f2, f3, f4])) (hone : oneCellFields P #[f0, f1, f2, f3, f4] = true) (hC : P.cellsOf e = 5)
    (s0 : P.underlying f0.type = some (.int .i64)) (s1 : P.underlying f1.type = some (.int .i64)) (s2 : P.underlying f2.type = some (.int .i64)) (s3 : P.underlying f3.type = some (.slice eb)) (s4 : P.underlying f4.type = some .string) (sb : P.underlying eb = some .bool) (cb : P.cellsOf eb = 1)
    (h : DataW.trod enc P w base (fun _ => true) held fuel t [.slice oa len cap] = some x) :
    ∃ l : List Act, Acts w (.slice oa len cap) l ∧ (∀ a ∈ l, Fit a) ∧ l.length ≤ maxLen := by
  rcases open_slice ht h with ⟨hcs, _⟩ | ⟨a, l, c, m, n, D, Pl, hcs, _, hl, hm, hmm, _, hi⟩
  · simp only [List.cons.injEq, Value.slice.injEq, and_true] at hcs
    obtain ⟨rfl, rfl, rfl⟩ := hcs
    exact ⟨[], .inl ⟨none, 0, rfl, rfl⟩, by simp, by simp⟩
  · simp only [List.cons.injEq, Value.slice.injEq, and_true] at hcs
    obtain ⟨rfl, rfl, rfl⟩ := hcs
    simp only [if_true] at hmm
    subst hmm
    have each : ∀ i, ∃ q : Act, i < len → (∃ vk, w.cell? (a.add (i * 5)) = some (.int .i64 q.op) ∧ w.cell? (a.add (i * 5 + 1)) = some (.int .i64 q.pos) ∧ w.cell? (a.add (i * 5 + 2)) = some (.int .i64 q.n) ∧ w.cell? (a.add (i * 5 + 3)) = some vk ∧ w.cell? (a.add (i * 5 + 4)) = some (.string (B q.data)) ∧ Row w vk (q.keep.map Value.bool)) ∧ Fit q := by
      intro i
      by_cases hil : i < len
      · obtain ⟨cs', hc, ht'⟩ := hi i (by omega)
        rw [hC] at hc
        obtain ⟨_, hcl, hat⟩ := World.cells?_some hc
        match cs', hcl with
        | [c0, c1, c2, c3, c4], _ =>
          obtain ⟨q, e0, e1, e2, e4, r3, hf⟩ := act_of_cells he hone s0 s1 s2 s3 s4 sb cb ht'
          have k0 := hat 0 (by omega)
          have k1 := hat 1 (by omega)
          have k2 := hat 2 (by omega)
          have k3 := hat 3 (by omega)
          have k4 := hat 4 (by omega)
          rw [Go.Deep.add_add] at k0 k1 k2 k3 k4
          exact ⟨q, fun _ => ⟨⟨c3, by rw [← e0]; exact k0, by rw [← e1]; exact k1, by rw [← e2]; exact k2, k3, by rw [← e4]; exact k4, r3⟩, hf⟩⟩
      · exact ⟨⟨0, 0, 0, [], []⟩, fun h => absurd h hil⟩
    obtain ⟨f, hf⟩ := Classical.axiomOfChoice each
    refine ⟨(List.range len).map f, ?_, ?_, by simp; omega⟩
    · by_cases h0 : len = 0
      · subst h0
        exact .inl ⟨some a, _, rfl, rfl⟩
      · obtain ⟨b, off, spot⟩ := a
        obtain ⟨⟨_, h1, _⟩, _⟩ := hf 0 (by omega)
        have hs : spot = none := by
          have := World.cell?_spot h1
          simpa [Addr.add] using this
        subst hs
        have e1 : ∀ k, (⟨b, off, none⟩ : Addr).add k = ⟨b, off + k, none⟩ := fun k => by unfold Addr.add; split <;> simp_all
        rw [e1] at h1
        refine .inr ⟨b, off, _, by simp; rfl, lt_of_cell h1, fun i hi' => ?_⟩
        have hil : i < len := by simpa using hi'
        obtain ⟨⟨vk, k0, k1, k2, k3, k4, kr⟩, _⟩ := hf i hil
        rw [e1] at k0 k1 k2 k3 k4
        simp only [List.getElem_map, List.getElem_range]
        exact ⟨vk, k0, k1, k2, k3, k4, kr⟩
    · intro q hq
      obtain ⟨i, hi', rfl⟩ := List.mem_map.1 hq
      exact (hf i (List.mem_range.1 hi')).2
theorem open_act {t : TypeId} {f0 f1 f2 f3 f4 : Field} {eb : TypeId} {v : Value} {d : DataW H} {p : List MemPlace} {r : Reach} {b0 : Nat}
    (he : P.underlying t = some (.struct #[f0, f1, f2, f3, f4])) (hone : oneCellFields P #[f0, f1, f2, f3, f4] = true) (hC : P.cellsOf t = 5)
    (s0 : P.underlying f0.type = some (.int .i64)) (s1 : P.underlying f1.type = some (.int .i64)) (s2 : P.underlying f2.type = some (.int .i64)) (s3 : P.underlying f3.type = some (.slice eb)) (s4 : P.underlying f4.type = some .string) (sb : P.underlying eb = some .bool) (cb : P.cellsOf eb = 1)
    (hv : Value.okWide P w r b0 t v) (h : DataW.Trod enc P w base (fun _ => true) held t v d p) :
    ∃ (a : Act) (vk : Value), v = .agg #[.int .i64 a.op, .int .i64 a.pos, .int .i64 a.n, vk, .string (B a.data)] ∧ Row w vk (a.keep.map Value.bool) ∧ Fit a := by
  obtain ⟨cs, rfl, hsz⟩ := okWide_struct he hv
  obtain ⟨l⟩ := cs
  match l, hsz.trans hC with
  | [c0, c1, c2, c3, c4], _ =>
    obtain ⟨fuel, hf⟩ := h
    obtain ⟨a, e0, e1, e2, e4, r3, hfit⟩ := act_of_cells he hone s0 s1 s2 s3 s4 sb cb (show DataW.trod enc P w base (fun _ => true) held fuel t [c0, c1, c2, c3, c4] = some _ from hf)
    exact ⟨a, c3, by rw [e0, e1, e2, e4], r3, hfit⟩
end
end Go.Proofs.Ytbcagddgchpheaa
