/- Arguments that are queries: a slice of them, and one by value, read as trees. No conditions. -/
import Derived.Test.YtlfhgmclnapmjaaGreatDoorQryMem
import Derived.Deep.Slices
import Derived.Deep.Fields
import Derived.OpenShut
import Derived.ChangeArms
namespace Go.Proofs.YtlfhgmclnapmjaaGreatDoor
open Go.RowKit Go.Utf Go.Qry Go.ChangeShapes Go.WideShapes Go.Deep

theorem bound_upto (f : Nat → Nat) : ∀ len, ∃ N, ∀ i, i < len → f i ≤ N
  | 0 => ⟨0, fun i hi => by omega⟩
  | len + 1 => by
    obtain ⟨N, hN⟩ := bound_upto f len
    refine ⟨max N (f len), fun i hi => ?_⟩
    by_cases h : i = len
    · subst h; omega
    · have := hN i (by omega); omega
section
variable {H : Type} {enc : TypeId × Value → H} {P : Program} {w : World} {base : Nat} {held : Bool} {tS tQ : TypeId} {f0 f1 f2 f3 f4 : Field}
/-- A query's five cells, where the slices within are rows. -/
theorem query_of_cells {fuel : Nat} {c0 c1 c2 c3 c4 : Value} {x : DataW H × List MemPlace}
    (hQ : P.underlying tQ = some (.struct #[f0, f1, f2, f3, f4])) (hone : oneCellFields P #[f0, f1, f2, f3, f4] = true)
    (s0 : P.underlying f0.type = some (.int .i64)) (s1 : P.underlying f1.type = some .string) (s2 : f2.type = tS) (s3 : f3.type = tS) (s4 : f4.type = tS)
    (hrow : ∀ m, m < fuel → ∀ c (y : DataW H × List MemPlace), DataW.trod enc P w base (fun _ => true) held m tS [c] = some y → ∃ n l, QRow w n c l)
    (h : DataW.trod enc P w base (fun _ => true) held fuel tQ [c0, c1, c2, c3, c4] = some x) :
    ∃ (n : Nat) (q : Qy), c0 = .int .i64 q.kind ∧ c1 = .string (B q.text) ∧ QVal w n q c2 c3 c4 := by
  obtain ⟨xs, m, hm, _, _, hlen, hg⟩ := DataW.trod_struct hQ h
  obtain ⟨o0, k0⟩ := hone_of hone 0 f0 rfl
  obtain ⟨o1, k1⟩ := hone_of hone 1 f1 rfl
  obtain ⟨o2, k2⟩ := hone_of hone 2 f2 rfl
  obtain ⟨o3, k3⟩ := hone_of hone 3 f3 rfl
  obtain ⟨o4, k4⟩ := hone_of hone 4 f4 rfl
  match xs, hlen with
  | [y0, y1, y2, y3, y4], _ =>
    have g0 : DataW.trod enc P w base (fun _ => true) held m f0.type [c0] = some y0 := by simpa [o0, k0] using hg 0 f0 rfl
    have g1 : DataW.trod enc P w base (fun _ => true) held m f1.type [c1] = some y1 := by simpa [o1, k1] using hg 1 f1 rfl
    have g2 : DataW.trod enc P w base (fun _ => true) held m f2.type [c2] = some y2 := by simpa [o2, k2] using hg 2 f2 rfl
    have g3 : DataW.trod enc P w base (fun _ => true) held m f3.type [c3] = some y3 := by simpa [o3, k3] using hg 3 f3 rfl
    have g4 : DataW.trod enc P w base (fun _ => true) held m f4.type [c4] = some y4 := by simpa [o4, k4] using hg 4 f4 rfl
    obtain ⟨z0, e0, _, b0⟩ := DataW.trod_int s0 g0
    obtain ⟨t1, e1, _, l1⟩ := DataW.trod_string s1 g1
    rw [s2] at g2
    rw [s3] at g3
    rw [s4] at g4
    obtain ⟨n2, q2, r2⟩ := hrow m (by omega) c2 y2 g2
    obtain ⟨n3, q3, r3⟩ := hrow m (by omega) c3 y3 g3
    obtain ⟨n4, q4, r4⟩ := hrow m (by omega) c4 y4 g4
    simp only [List.cons.injEq, and_true] at e0 e1
    have bd : -9223372036854775808 ≤ z0 ∧ z0 ≤ 9223372036854775807 := by
      have hc := b0
      simp [Lit.wf, IntKind.min, IntKind.max, IntKind.signed, IntKind.bits] at hc
      omega
    unfold maxLen at l1
    refine ⟨max n2 (max n3 n4), .mk z0 (L t1) q2 q3 q4, e0, by rw [e1]; show _ = Value.string (B (L t1)); rw [B_L], ⟨bd.1, bd.2, by show (L t1).length ≤ _; rw [length_L]; omega⟩, r2.mono (by omega), r3.mono (by omega), r4.mono (by omega)⟩
theorem open_qrow (hS : P.underlying tS = some (.slice tQ)) (hQ : P.underlying tQ = some (.struct #[f0, f1, f2, f3, f4])) (hone : oneCellFields P #[f0, f1, f2, f3, f4] = true) (hC : P.cellsOf tQ = 5)
    (s0 : P.underlying f0.type = some (.int .i64)) (s1 : P.underlying f1.type = some .string) (s2 : f2.type = tS) (s3 : f3.type = tS) (s4 : f4.type = tS) :
    ∀ (fuel : Nat) (c : Value) (x : DataW H × List MemPlace), DataW.trod enc P w base (fun _ => true) held fuel tS [c] = some x → ∃ n l, QRow w n c l := by
  intro fuel
  induction fuel using Nat.strongRecOn with
  | _ fuel ih =>
    intro c x h
    rcases DataW.trod_slice hS h with ⟨hcs, _⟩ | ⟨a, len, cap, elems, rest, n, hfu, hcs, _, _, hl, hm, hlen, hel, _⟩
    · simp only [List.cons.injEq, and_true] at hcs
      subst hcs
      exact ⟨0, [], none, 0, rfl, fun _ => rfl, rfl⟩
    · simp only [List.cons.injEq, and_true] at hcs
      subst hcs
      have each : ∀ i, ∃ r : Nat × Qy, i < len → ∃ vm vs vn, w.cell? (a.add (i * 5)) = some (.int .i64 r.2.kind) ∧ w.cell? (a.add (i * 5 + 1)) = some (.string (B r.2.text)) ∧ w.cell? (a.add (i * 5 + 2)) = some vm ∧ w.cell? (a.add (i * 5 + 3)) = some vs ∧ w.cell? (a.add (i * 5 + 4)) = some vn ∧ QVal w r.1 r.2 vm vs vn := by
        intro i
        by_cases hil : i < len
        · have h1 := hel i hil
          rw [List.getElem?_eq_getElem (by omega)] at h1
          obtain ⟨cs', hc, ht'⟩ := Option.bind_eq_some_iff.1 h1
          rw [hC] at hc
          obtain ⟨_, hcl, hat⟩ := World.cells?_some hc
          match cs', hcl with
          | [c0, c1, c2, c3, c4], _ =>
            obtain ⟨n', q, e0, e1, hv⟩ := query_of_cells hQ hone s0 s1 s2 s3 s4 (fun m hm c y hy => ih m (by omega) c y hy) ht'
            have k0 := hat 0 (by omega)
            have k1 := hat 1 (by omega)
            have k2 := hat 2 (by omega)
            have k3 := hat 3 (by omega)
            have k4 := hat 4 (by omega)
            rw [Go.Deep.add_add] at k0 k1 k2 k3 k4
            exact ⟨(n', q), fun _ => ⟨c2, c3, c4, by rw [← e0]; exact k0, by rw [← e1]; exact k1, k2, k3, k4, hv⟩⟩
        · exact ⟨(0, .mk 0 [] [] [] []), fun h => absurd h hil⟩
      obtain ⟨f, hf⟩ := Classical.axiomOfChoice each
      obtain ⟨N, hN⟩ := bound_upto (fun i => (f i).1) len
      refine ⟨N + 1, (List.range len).map fun i => (f i).2, ?_⟩
      by_cases h0 : len = 0
      · subst h0
        exact .inl ⟨some a, _, rfl, fun h => (by cases h), rfl⟩
      · obtain ⟨b, off, spot⟩ := a
        obtain ⟨_, _, _, h1, _⟩ := hf 0 (by omega)
        have hs : spot = none := by
          have := World.cell?_spot h1
          simpa [Addr.add] using this
        subst hs
        have e1 : ∀ k, (⟨b, off, none⟩ : Addr).add k = ⟨b, off + k, none⟩ := fun k => by unfold Addr.add; split <;> simp_all
        rw [e1] at h1
        unfold maxLen at hm
        refine .inr ⟨b, off, cap, by simp, by simpa using hl, by omega, lt_of_cell h1, fun i hi' => ?_⟩
        have hil : i < len := by simpa using hi'
        obtain ⟨vm, vs, vn, k0, k1, k2, k3, k4, hv⟩ := hf i hil
        rw [e1] at k0 k1 k2 k3 k4
        simp only [List.getElem_map, List.getElem_range]
        have hle := hN i hil
        exact ⟨hv.fit, vm, vs, vn, k0, k1, k2, k3, k4, hv.must.mono hle, hv.should.mono hle, hv.nots.mono hle⟩
theorem open_query {v : Value} {d : DataW H} {p : List MemPlace} {r : Reach} {b0 : Nat} (hS : P.underlying tS = some (.slice tQ)) (hQ : P.underlying tQ = some (.struct #[f0, f1, f2, f3, f4])) (hone : oneCellFields P #[f0, f1, f2, f3, f4] = true) (hC : P.cellsOf tQ = 5)
    (s0 : P.underlying f0.type = some (.int .i64)) (s1 : P.underlying f1.type = some .string) (s2 : f2.type = tS) (s3 : f3.type = tS) (s4 : f4.type = tS)
    (hv : Value.okWide P w r b0 tQ v) (h : DataW.Trod enc P w base (fun _ => true) held tQ v d p) :
    ∃ (n : Nat) (q : Qy) (vm vs vn : Value), v = qV q vm vs vn ∧ QVal w n q vm vs vn := by
  obtain ⟨cs, rfl, hsz⟩ := okWide_struct hQ hv
  obtain ⟨l⟩ := cs
  match l, hsz.trans hC with
  | [c0, c1, c2, c3, c4], _ =>
    obtain ⟨fuel, hf⟩ := h
    obtain ⟨n, q, e0, e1, hq⟩ := query_of_cells hQ hone s0 s1 s2 s3 s4 (fun m _ c y hy => open_qrow hS hQ hone hC s0 s1 s2 s3 s4 m c y hy) (show DataW.trod enc P w base (fun _ => true) held fuel tQ [c0, c1, c2, c3, c4] = some _ from hf)
    exact ⟨n, q, c2, c3, c4, by rw [e0, e1]; rfl, hq⟩
end
end Go.Proofs.YtlfhgmclnapmjaaGreatDoor
