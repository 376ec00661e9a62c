/- Queries in memory: a slice of them, one as a value; what a call leaves of them. No conditions. -/
import Derived.Test.YtlfhgmclnapmjaaGreatDoorTokRows
import Derived.Test.YtlfhgmclnapmjaaGreatDoorTokSet
namespace Go.Proofs.YtlfhgmclnapmjaaGreatDoor
open Go.RowKit Go.Utf Go.Qry

/-- A query's numbers fit. -/
def FitQ (q : Qy) : Prop := -9223372036854775808 ≤ q.kind ∧ q.kind ≤ 9223372036854775807 ∧ q.text.length ≤ 9223372036854775807
/-- A slice of queries, at most n deep. -/
def QRow (w : World) : Nat → Value → List Qy → Prop
  | 0, v, l => ∃ a c, v = .slice a 0 c ∧ (a = none → c = 0) ∧ l = []
  | n + 1, v, l => (∃ a c, v = .slice a 0 c ∧ (a = none → c = 0) ∧ l = []) ∨ ∃ b off cap, v = .slice (some ⟨b, off, none⟩) l.length cap ∧ l.length ≤ cap ∧ cap ≤ 9223372036854775807 ∧ b < w.heap.size ∧ ∀ i (hi : i < l.length), FitQ l[i] ∧ ∃ vm vs vn,
      w.cell? ⟨b, off + i * 5, none⟩ = some (.int .i64 l[i].kind) ∧ w.cell? ⟨b, off + i * 5 + 1, none⟩ = some (.string (B l[i].text)) ∧ w.cell? ⟨b, off + i * 5 + 2, none⟩ = some vm ∧ w.cell? ⟨b, off + i * 5 + 3, none⟩ = some vs ∧ w.cell? ⟨b, off + i * 5 + 4, none⟩ = some vn ∧
      QRow w n vm l[i].must ∧ QRow w n vs l[i].should ∧ QRow w n vn l[i].nots
def qV (q : Qy) (vm vs vn : Value) : Value := .agg #[.int .i64 q.kind, .string (B q.text), vm, vs, vn]
/-- A query as a value. -/
structure QVal (w : World) (n : Nat) (q : Qy) (vm vs vn : Value) : Prop where
  fit : FitQ q
  must : QRow w n vm q.must
  should : QRow w n vs q.should
  nots : QRow w n vn q.nots
theorem QRow.below {w w' : World} (hb : Below w.heap.size w w') : ∀ {n : Nat} {v : Value} {l : List Qy}, QRow w n v l → QRow w' n v l
  | 0, _, _, h => h
  | n + 1, v, l, h => by
    rcases h with h | ⟨b, off, cap, h1, h2, h3, h4, h5⟩
    · exact .inl h
    · refine .inr ⟨b, off, cap, h1, h2, h3, Nat.lt_of_lt_of_le h4 hb.size, fun i hi => ?_⟩
      obtain ⟨hf, vm, vs, vn, c0, c1, c2, c3, c4, r1, r2, r3⟩ := h5 i hi
      exact ⟨hf, vm, vs, vn, cell_below hb h4 c0, cell_below hb h4 c1, cell_below hb h4 c2, cell_below hb h4 c3, cell_below hb h4 c4, QRow.below hb r1, QRow.below hb r2, QRow.below hb r3⟩
theorem QVal.below {w w' : World} {n : Nat} {q : Qy} {vm vs vn : Value} (h : QVal w n q vm vs vn) (hb : Below w.heap.size w w') : QVal w' n q vm vs vn := ⟨h.fit, h.must.below hb, h.should.below hb, h.nots.below hb⟩
theorem QRow.up {w : World} : ∀ {n : Nat} {v : Value} {l : List Qy}, QRow w n v l → QRow w (n + 1) v l
  | 0, _, _, h => .inl h
  | n + 1, v, l, h => by
    rcases h with h | ⟨b, off, cap, h1, h2, h3, h4, h5⟩
    · exact .inl h
    · refine .inr ⟨b, off, cap, h1, h2, h3, h4, fun i hi => ?_⟩
      obtain ⟨hf, vm, vs, vn, c0, c1, c2, c3, c4, r1, r2, r3⟩ := h5 i hi
      exact ⟨hf, vm, vs, vn, c0, c1, c2, c3, c4, QRow.up r1, QRow.up r2, QRow.up r3⟩
theorem QRow.mono {w : World} {n m : Nat} (hnm : n ≤ m) {v : Value} {l : List Qy} (h : QRow w n v l) : QRow w m v l := by
  induction hnm with
  | refl => exact h
  | step _ ih => exact ih.up
theorem QVal.mono {w : World} {n m : Nat} (hnm : n ≤ m) {q : Qy} {vm vs vn : Value} (h : QVal w n q vm vs vn) : QVal w m q vm vs vn := ⟨h.fit, h.must.mono hnm, h.should.mono hnm, h.nots.mono hnm⟩
/-- What a slice of queries looks like, and each of its elements. -/
theorem QRow.form {w : World} {n : Nat} {v : Value} {l : List Qy} (h : QRow w n v l) : ∃ oa c, v = .slice oa l.length c ∧ l.length ≤ 9223372036854775807 ∧ ∀ i (hi : i < l.length), ∃ b off k vm vs vn, n = k + 1 ∧ oa = some ⟨b, off, none⟩ ∧ b < w.heap.size ∧ l.length ≤ c ∧
    w.cell? ⟨b, off + i * 5, none⟩ = some (.int .i64 l[i].kind) ∧ w.cell? ⟨b, off + i * 5 + 1, none⟩ = some (.string (B l[i].text)) ∧ w.cell? ⟨b, off + i * 5 + 2, none⟩ = some vm ∧ w.cell? ⟨b, off + i * 5 + 3, none⟩ = some vs ∧ w.cell? ⟨b, off + i * 5 + 4, none⟩ = some vn ∧ QVal w k l[i] vm vs vn := by
  cases n with
  | zero =>
    obtain ⟨a, c, rfl, _, rfl⟩ := h
    exact ⟨a, c, rfl, by simp, fun i hi => by simp at hi⟩
  | succ n =>
    rcases h with ⟨a, c, rfl, _, rfl⟩ | ⟨b, off, cap, rfl, h2, h3, h4, h5⟩
    · exact ⟨a, c, rfl, by simp, fun i hi => by simp at hi⟩
    · refine ⟨_, _, rfl, by omega, fun i hi => ?_⟩
      obtain ⟨hf, vm, vs, vn, c0, c1, c2, c3, c4, r1, r2, r3⟩ := h5 i hi
      exact ⟨b, off, n, vm, vs, vn, rfl, rfl, h4, h2, c0, c1, c2, c3, c4, hf, r1, r2, r3⟩
theorem QRow.nil (w : World) (n : Nat) : QRow w n (.slice none 0 0) [] := by
  cases n with
  | zero => exact ⟨none, 0, rfl, fun _ => rfl, rfl⟩
  | succ n => exact .inl ⟨none, 0, rfl, fun _ => rfl, rfl⟩
/-- Queries laid down one behind the other in a new block. -/
def qCells (l : List (Qy × Value × Value × Value)) : List Value := l.flatMap fun p => [.int .i64 p.1.kind, .string (B p.1.text), p.2.1, p.2.2.1, p.2.2.2]
theorem qCells_get (l : List (Qy × Value × Value × Value)) (i : Nat) (h : i < l.length) : (qCells l)[i * 5]? = some (.int .i64 l[i].1.kind) ∧ (qCells l)[i * 5 + 1]? = some (.string (B l[i].1.text)) ∧ (qCells l)[i * 5 + 2]? = some l[i].2.1 ∧ (qCells l)[i * 5 + 3]? = some l[i].2.2.1 ∧ (qCells l)[i * 5 + 4]? = some l[i].2.2.2 := by
  unfold qCells
  induction l generalizing i with
  | nil => simp at h
  | cons e es ih =>
    cases i with
    | zero => simp
    | succ i =>
      have := ih i (by simpa using h)
      simp only [List.flatMap_cons, List.getElem_cons_succ]
      rw [show (i + 1) * 5 = i * 5 + 5 by omega]
      simpa using this
theorem qCells_length (l : List (Qy × Value × Value × Value)) : (qCells l).length = l.length * 5 := by
  unfold qCells
  induction l with
  | nil => rfl
  | cons e es ih => rw [List.flatMap_cons, List.length_append, ih, List.length_cons]; simp; omega
theorem qCells_append (a b : List (Qy × Value × Value × Value)) : qCells (a ++ b) = qCells a ++ qCells b := by simp [qCells]
/-- A row of queries that a call owns, whose parts lie elsewhere. -/
theorem QRow.of_own {w : World} {base n : Nat} {v : Value} {l : List (Qy × Value × Value × Value)} (h : w.ownsRow base 24 5 v l.length (qCells l)) (hq : ∀ p ∈ l, QVal w n p.1 p.2.1 p.2.2.1 p.2.2.2) : QRow w (n + 1) v (l.map Prod.fst) := by
  rcases h.2 with ⟨rfl, h0⟩ | ⟨g, cap, cur, rfl, hg, hh, h1, h2, h3, h4⟩
  · exact .inl ⟨none, 0, rfl, fun _ => rfl, by rw [List.eq_nil_of_length_eq_zero h0]; rfl⟩
  · refine .inr ⟨g, 0, cap, by simp, by simpa using h1, by unfold maxLen at h2; omega, (h.lt g rfl).2, fun i hi => ?_⟩
    have hi' : i < l.length := by simpa using hi
    obtain ⟨e0, e1, e2, e3, e4⟩ := qCells_get l i hi'
    have key : ∀ k, k < 5 → w.cell? ⟨g, 0 + i * 5 + k, none⟩ = (qCells l)[i * 5 + k]? := fun k hk => by
      rw [Lib.cell_of_heap hh, Nat.zero_add, ← Array.getElem?_toList, ← h4, List.getElem?_take, if_pos (by omega)]
    have hv := hq l[i] (List.getElem_mem hi')
    simp only [List.getElem_map]
    exact ⟨hv.fit, _, _, _, (key 0 (by omega)).trans e0, (key 1 (by omega)).trans e1, (key 2 (by omega)).trans e2, (key 3 (by omega)).trans e3, (key 4 (by omega)).trans e4, hv.must, hv.should, hv.nots⟩
theorem QRow.of_own' {w : World} {base n : Nat} {v : Value} {l : List (Qy × Value × Value × Value)} (h : w.ownsRow base 24 5 v l.length (qCells l)) (hq : ∀ p ∈ l, 0 < n ∧ QVal w (n - 1) p.1 p.2.1 p.2.2.1 p.2.2.2) : QRow w n v (l.map Prod.fst) := by
  cases n with
  | zero =>
    cases l with
    | nil =>
      rcases h.2 with ⟨rfl, _⟩ | ⟨g, cap, cur, rfl, _⟩
      · exact ⟨none, 0, rfl, fun _ => rfl, rfl⟩
      · exact ⟨_, _, rfl, fun e => (by cases e), rfl⟩
    | cons p l => exact absurd (hq p (by simp)).1 (by omega)
  | succ n => exact QRow.of_own h (fun p hp => (hq p hp).2)
theorem QRow.bare {w : World} {n : Nat} {oa : Option Addr} {m c : Nat} {l : List Qy} (h : QRow w n (.slice oa m c) l) : oa = none → m = 0 ∧ c = 0 := by
  rintro rfl
  cases n with
  | zero =>
    obtain ⟨a, c', e, hz, _⟩ := h
    simp only [Value.slice.injEq] at e
    obtain ⟨rfl, rfl, rfl⟩ := e
    exact ⟨rfl, hz rfl⟩
  | succ n =>
    rcases h with ⟨a, c', e, hz, _⟩ | ⟨b, off, cap, e, _⟩
    · simp only [Value.slice.injEq] at e
      obtain ⟨rfl, rfl, rfl⟩ := e
      exact ⟨rfl, hz rfl⟩
    · simp at e
theorem QRow.oneCell {w : World} {n : Nat} {v : Value} {l : List Qy} (h : QRow w n v l) : v.oneCell' = true := by
  obtain ⟨oa, c, rfl, _⟩ := h.form
  rfl
/-- The cells of a slice of queries, one behind the other. -/
theorem QRow.parts {w : World} {n : Nat} {v : Value} {l : List Qy} (h : QRow w n v l) : ∃ oa c ps, v = .slice oa l.length c ∧ ps.map Prod.fst = l ∧ (∀ p ∈ ps, 0 < n ∧ QVal w (n - 1) p.1 p.2.1 p.2.2.1 p.2.2.2) ∧ (oa = none → l.length = 0 ∧ c = 0) ∧ (∀ ad, oa = some ad → ∀ j u, (qCells ps)[j]? = some u → w.cell? (ad.add j) = some u) ∧ (∀ u ∈ qCells ps, u.oneCell' = true) := by
  have hb := h
  obtain ⟨oa, c, rfl, _, hc⟩ := h.form
  have each : ∀ i : Nat, ∃ r : Value × Value × Value, ∀ hi : i < l.length, ∃ b off, oa = some ⟨b, off, none⟩ ∧ w.cell? ⟨b, off + i * 5, none⟩ = some (.int .i64 l[i].kind) ∧ w.cell? ⟨b, off + i * 5 + 1, none⟩ = some (.string (B l[i].text)) ∧ w.cell? ⟨b, off + i * 5 + 2, none⟩ = some r.1 ∧ w.cell? ⟨b, off + i * 5 + 3, none⟩ = some r.2.1 ∧ w.cell? ⟨b, off + i * 5 + 4, none⟩ = some r.2.2 ∧ 0 < n ∧ QVal w (n - 1) l[i] r.1 r.2.1 r.2.2 := by
    intro i
    by_cases hi : i < l.length
    · obtain ⟨b, off, k, vm, vs, vn, hk, ho, _, _, c0, c1, c2, c3, c4, hv⟩ := hc i hi
      exact ⟨(vm, vs, vn), fun _ => ⟨b, off, ho, c0, c1, c2, c3, c4, by omega, by rw [hk]; exact hv⟩⟩
    · exact ⟨(.bool false, .bool false, .bool false), fun h => absurd h hi⟩
  obtain ⟨f, hf⟩ := Classical.axiomOfChoice each
  have hlen : (List.ofFn fun i : Fin l.length => (l[i], f i)).length = l.length := List.length_ofFn
  refine ⟨oa, c, List.ofFn fun i : Fin l.length => (l[i], f i), rfl, ?_, ?_, hb.bare, ?_, ?_⟩
  · apply List.ext_getElem
    · rw [List.length_map, hlen]
    · intro i h1 h2
      simp
  · intro p hp
    obtain ⟨i, rfl⟩ := List.mem_ofFn.1 hp
    obtain ⟨_, _, _, _, _, _, _, _, hn, hv⟩ := hf i i.2
    exact ⟨hn, hv⟩
  · rintro ad rfl j u hu
    have hj : j < (List.ofFn fun i : Fin l.length => (l[i], f i)).length * 5 := by
      have := (List.getElem?_eq_some_iff.1 hu).1
      rwa [qCells_length] at this
    rw [hlen] at hj
    have hi : j / 5 < l.length := by omega
    obtain ⟨b, off, ho, c0, c1, c2, c3, c4, _, _⟩ := hf (j / 5) hi
    obtain ⟨e0, e1, e2, e3, e4⟩ := qCells_get (List.ofFn fun i : Fin l.length => (l[i], f i)) (j / 5) (by rw [hlen]; exact hi)
    simp only [List.getElem_ofFn] at e0 e1 e2 e3 e4
    simp only [Option.some.injEq] at ho
    subst ho
    rw [show (⟨b, off, none⟩ : Addr).add j = ⟨b, off + j, none⟩ by unfold Addr.add; split <;> simp_all]
    rcases (show j = j / 5 * 5 ∨ j = j / 5 * 5 + 1 ∨ j = j / 5 * 5 + 2 ∨ j = j / 5 * 5 + 3 ∨ j = j / 5 * 5 + 4 by omega) with e | e | e | e | e
    · rw [e, e0] at hu; rw [e, ← hu]; exact c0
    · rw [e, e1] at hu; rw [e, ← hu]; exact c1
    · rw [e, e2] at hu; rw [e, ← hu]; exact c2
    · rw [e, e3] at hu; rw [e, ← hu]; exact c3
    · rw [e, e4] at hu; rw [e, ← hu]; exact c4
  · intro u hu
    unfold qCells at hu
    obtain ⟨p, hp, hu⟩ := List.mem_flatMap.1 hu
    obtain ⟨i, rfl⟩ := List.mem_ofFn.1 hp
    obtain ⟨_, _, _, _, _, _, _, _, _, hv⟩ := hf i i.2
    simp only [List.mem_cons, List.not_mem_nil, or_false] at hu
    rcases hu with rfl | rfl | rfl | rfl | rfl
    · rfl
    · rfl
    · exact hv.must.oneCell
    · exact hv.should.oneCell
    · exact hv.nots.oneCell
end Go.Proofs.YtlfhgmclnapmjaaGreatDoor
